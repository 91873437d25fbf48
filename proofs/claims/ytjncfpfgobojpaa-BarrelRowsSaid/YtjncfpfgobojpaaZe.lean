/- What the proof of the law needs: the abstract machine, the functions as it reads them, their contracts, part 5. -/
import Derived.Test.YtjncfpfgobojpaaZd
set_option linter.unusedVariables false
set_option linter.unusedSimpArgs false
namespace Go.Proofs.Ytjncfpfgobojpaa
open Go Go.Am Go.Proofs Go.Sort
/-! ### The rows -/
def rw1 (r : List Nat) : Rw := (r.length, nl r)
def rvN (r : List Nat) : AV := .vs r.length (nl r)
abbrev vRows (rows : List (List Nat)) : AV := .vs rows.length (rows.map rvN)
theorem rows_plain (rows : List (List Nat)) : AV.plains (rows.map rvN) = true := plains_all fun x hx => by
  obtain ⟨r, _, rfl⟩ := List.mem_map.1 hx
  exact nl_plain r
theorem rw_plain {rows : List (List Nat)} : ∀ p ∈ rows.map rw1, AV.plains p.2 = true := fun p hp => by
  obtain ⟨r, _, rfl⟩ := List.mem_map.1 hp
  exact nl_plain r
theorem rv_map (rows : List (List Nat)) : (rows.map rw1).map rV = rows.map rvN := by rw [List.map_map]; rfl
theorem rvN_get {rows : List (List Nat)} {k : Nat} (h : k < rows.length) : (rows.map rvN)[k]? = some (.vs (rows.getD k []).length (nl (rows.getD k []))) := by
  simp [h, rvN]
theorem rD_map {rows : List (List Nat)} {k : Nat} (h : k < rows.length) : rD (rows.map rw1) k = ((rows.getD k []).length, nl (rows.getD k [])) := by
  simp [rD, h, rw1]
theorem last_get {r : List Nat} (h : r ≠ []) : (nl r)[r.length - 1]? = some (.i .i64 (lastN r : Nat)) := by
  have : 0 < r.length := List.length_pos_iff.2 h
  rw [nl_get (by omega)]; rfl
theorem Nest.lt {h : AH} {k r : Nat} {ts : List Nat} {rows : List Rw} (N : Nest h k r ts rows) (ok : h.ok) : ∀ t ∈ ts, t < h.nx := fun t ht => by
  obtain ⟨i, hi, e⟩ := List.getElem_of_mem ht
  have := N.ht i (by have := N.len; omega)
  have e2 : tD ts i = t := by simp [tD, hi, e]
  rw [e2] at this
  exact ok.m this
theorem pc87 (l : List B) (row : List Nat) (i : Nat) (hr : row ≠ []) (hx : lastN row < l.length) (hi : i < l.length) (hl : row.length ≤ 1000) : PC Try.prog 87 [.vs row.length (nl row), .pv [vB l] 0, .pv [.i .i64 (i : Int)] 0] (.b (mayI l (lastN row) i)) := by
  refine pc_fn fn87 (by simp only [AV.plains, AV.plain, il_plain, bl_plain, Bool.and_true, Bool.true_and, Bool.and_self, flB_plain, nl_plain]) (by simp only [AV.plains, AV.plain, il_plain, bl_plain, Bool.and_true, Bool.true_and, Bool.and_self, flB_plain, nl_plain]) (Nat.le_of_ble_eq_true rfl) ?_
  rw [initSt3]
  have rA := rdB hx
  have rC := rdB hi
  have q := pc58 (bD l (lastN row)) (bD l i)
  simp only [eB] at rA rC q
  have hi' : (i : Int) < l.length := by omega
  have hx' : ((lastN row : Nat) : Int) < l.length := by omega
  have hp : 0 < row.length := List.length_pos_iff.2 hr
  have e1 : (row.length : Int) - 1 = ((row.length - 1 : Nat) : Int) := by omega
  have g := last_get hr
  have hlt : row.length - 1 < row.length := by omega
  repeat' first
    | with_reducible refine k_seq ?_
    | with_reducible refine k_skip ?_
    | with_reducible refine k_blkS ?_
    | with_reducible refine k_blkR ?_
    | with_reducible refine k_blkC ?_
    | with_reducible refine k_blkH ?_
    | with_reducible refine k_blkB ?_
    | with_reducible refine k_blkK ?_
    | with_reducible refine k_blkE ?_
    | with_reducible refine k_reg ?_
    | with_reducible refine k_head (by with_unfolding_all rfl) ?_
    | with_reducible refine k_headS ?_
    | (with_reducible refine SepK.mk ?_ ?_; (refine sepQ_P ?_; simp [sepQ, sepG, AOp.late, AOp.free, AOp.xs, AOp.isAl, tokNe, AV.tok, stS_get, strip, AX.val, c87r0, c87r1, GA]; try omega))
    | with_reducible refine r_done ?_
    | with_reducible refine hr_done ?_
    | with_reducible refine s_go (by simp (disch := omega) only [rA, rC, hi', hx', e1, g, hlt, c87r0, c87r1, EV0, EV1, EV2, EV3, EV4, EV5, EV6, EV7, EV8, VALS, plug, ite_same, decide_true, decide_false, eq_self, ↓reduceIte, reduceCtorEq, Nat.reduceAdd, Nat.reduceEqDiff, Nat.reduceLT, Nat.reduceLeDiff, Nat.reduceMul, Nat.reduceSub, Nat.reduceDiv, Int.reduceToNat, Int.reduceAdd, Int.reduceSub, Int.reduceMul, Int.reduceNeg, Int.reduceEq, Int.reduceLT, Int.reduceLE]; with_reducible rfl) ?_
    | with_reducible refine h_go (by with_unfolding_all rfl) (by simp (disch := omega) only [rA, rC, hi', hx', e1, g, hlt, c87r0, c87r1, EV0, EV1, EV2, EV3, EV4, EV5, EV6, EV7, EV8, VALS, plug, ite_same, decide_true, decide_false, eq_self, ↓reduceIte, reduceCtorEq, Nat.reduceAdd, Nat.reduceEqDiff, Nat.reduceLT, Nat.reduceLeDiff, Nat.reduceMul, Nat.reduceSub, Nat.reduceDiv, Int.reduceToNat, Int.reduceAdd, Int.reduceSub, Int.reduceMul, Int.reduceNeg, Int.reduceEq, Int.reduceLT, Int.reduceLE]; with_reducible rfl) ?_
    | ((with_reducible refine chk_r ?_); refine r_callF (by simp only [CA, Nat.reduceEqDiff, ↓reduceIte]; rfl) (by exact rfl) (by simp only [CA, Nat.reduceEqDiff, ↓reduceIte]; rfl) rfl ?_)
    | ((with_reducible refine chk_h ?_); refine hr_callF (by simp only [CA, Nat.reduceEqDiff, ↓reduceIte]; rfl) (by exact rfl) (by simp only [CA, Nat.reduceEqDiff, ↓reduceIte]; rfl) rfl ?_)
    | ((with_reducible refine chk_r ?_); refine r_callP (by simp only [CA, Nat.reduceEqDiff, ↓reduceIte]; rfl) (by simp only [CA, Nat.reduceEqDiff, ↓reduceIte]; rfl) (by first | exact q _) rfl ?_)
    | ((with_reducible refine chk_h ?_); refine hr_callP (by simp only [CA, Nat.reduceEqDiff, ↓reduceIte]; rfl) (by simp only [CA, Nat.reduceEqDiff, ↓reduceIte]; rfl) (by first | exact q _) rfl ?_)
    | ((with_reducible refine chk_h ?_); refine hr_callP1 (by simp only [CA, Nat.reduceEqDiff, ↓reduceIte]; rfl) (by simp only [CA, Nat.reduceEqDiff, ↓reduceIte]; rfl) (by simp (disch := omega) only [CA, Nat.reduceEqDiff, ↓reduceIte, firstTok_nil, firstTok_sl, firstTok_sl0, firstTok_i, firstTok_b, firstTok_ag, firstTok_p, firstTok_s]; rfl) (by first | exact q _) rfl ?_)
    | ((with_reducible refine chk_h ?_); refine hr_app (by simp (disch := omega) only [rA, rC, hi', hx', e1, g, hlt, c87r0, c87r1, EV0, EV1, EV2, EV3, EV4, EV5, EV6, EV7, EV8, VALS, plug, ite_same, decide_true, decide_false, eq_self, ↓reduceIte, reduceCtorEq, Nat.reduceAdd, Nat.reduceEqDiff, Nat.reduceLT, Nat.reduceLeDiff, Nat.reduceMul, Nat.reduceSub, Nat.reduceDiv, Int.reduceToNat, Int.reduceAdd, Int.reduceSub, Int.reduceMul, Int.reduceNeg, Int.reduceEq, Int.reduceLT, Int.reduceLE]; with_reducible rfl) rfl ?_)
    | (with_reducible refine k_condP (by simp only [GA, Nat.reduceEqDiff, ↓reduceIte]; rfl) (by first | (simp only [BO]; rfl) | rfl) (fun ht => ?_) (fun ht => ?_) <;> try (first | exact False.elim ht | exact absurd rfl ht | exact absurd trivial ht | exact Bool.noConfusion ht))
    | (with_reducible refine k_ret ?_; repeat with_reducible (first | refine ret_thru ?_ | refine ret_blk ?_ | refine fin ?_))
    | (with_reducible refine k_exit ?_; repeat with_reducible (first | refine thru ?_ | refine out_blk ?_ | refine pass (by decide) ?_))
    | (refine post1 ?_; simp only [GA, Nat.reduceEqDiff, ↓reduceIte])
    | (refine post2 ?_; simp only [GA, Nat.reduceEqDiff, ↓reduceIte])
    | (refine post3 ?_; simp only [GA, Nat.reduceEqDiff, ↓reduceIte])
    | (refine postc (by simp only [GA, Nat.reduceEqDiff, ↓reduceIte]; rfl) (by simp (disch := omega) only [rA, rC, hi', hx', e1, g, hlt, c87r0, c87r1, EV0, EV1, EV2, EV3, EV4, EV5, EV6, EV7, EV8, VALS, plug, ite_same, decide_true, decide_false, eq_self, ↓reduceIte, reduceCtorEq, Nat.reduceAdd, Nat.reduceEqDiff, Nat.reduceLT, Nat.reduceLeDiff, Nat.reduceMul, Nat.reduceSub, Nat.reduceDiv, Int.reduceToNat, Int.reduceAdd, Int.reduceSub, Int.reduceMul, Int.reduceNeg, Int.reduceEq, Int.reduceLT, Int.reduceLE]; rfl) ?_)
    | refine post0 ?_
  all_goals first | exact ends_of | exact ends_eq rfl
/-- the first row that i may follow, or -1 -/
def fitI (l : List B) (rows : List (List Nat)) (i : Nat) : Int := if fit l rows i < rows.length then fit l rows i else -1
theorem fit_ge {l : List B} {i : Nat} : ∀ {rows : List (List Nat)} {k : Nat}, (∀ j, j < k → mayI l (lastN (rows.getD j [])) i = false) → k ≤ rows.length → k ≤ fit l rows i
  | [], k, h, hk => by simp at hk; omega
  | r :: rs, k, h, hk => by
    simp only [fit]
    cases k with
    | zero => exact Nat.zero_le _
    | succ k =>
      have h0 := h 0 (by omega)
      simp only [List.getD_cons_zero] at h0
      rw [if_neg (by rw [h0]; simp)]
      have := fit_ge (rows := rs) (k := k) (l := l) (i := i) (fun j hj => by have := h (j + 1) (by omega); simpa using this) (by simpa using hk)
      omega
theorem pc86 (l : List B) (rows : List (List Nat)) (i : Nat) (hr : ∀ r ∈ rows, r ≠ [] ∧ lastN r < l.length ∧ r.length ≤ 1000) (hi : i < l.length) (hl : rows.length ≤ 1000) :
    PC Try.prog 86 [vRows rows, .fn 87 [] [.pv [vB l] 0, .pv [.i .i64 (i : Int)] 0]] (.i .i64 (fitI l rows i)) := by
  refine pc_fn fn86 (by simp only [AV.plains, AV.plain, il_plain, bl_plain, Bool.and_true, Bool.true_and, Bool.and_self, flB_plain, rows_plain]) (by simp only [AV.plains, AV.plain, il_plain, bl_plain, Bool.and_true, Bool.true_and, Bool.and_self, flB_plain, rows_plain]) (Nat.le_of_ble_eq_true rfl) ?_
  rw [initSt2]
  repeat' first
    | with_reducible refine k_seq ?_
    | with_reducible refine k_skip ?_
    | with_reducible refine k_blkS ?_
    | with_reducible refine k_blkR ?_
    | with_reducible refine k_blkC ?_
    | with_reducible refine k_blkH ?_
    | with_reducible refine k_blkB ?_
    | with_reducible refine k_blkK ?_
    | with_reducible refine k_blkE ?_
    | with_reducible refine k_reg ?_
    | with_reducible refine r_done ?_
    | with_reducible refine s_go (by simp (disch := omega) only [c86r0, c86r1, c86r2, c86r3, c86r4, c86r5, c86r6, c86r8, EV0, EV1, EV2, EV3, EV4, EV5, EV6, EV7, EV8, VALS, plug, ite_same, decide_true, decide_false, eq_self, ↓reduceIte, reduceCtorEq, Nat.reduceAdd, Nat.reduceEqDiff, Nat.reduceLT, Nat.reduceLeDiff, Nat.reduceMul, Nat.reduceSub, Nat.reduceDiv, Int.reduceToNat, Int.reduceAdd, Int.reduceSub, Int.reduceMul, Int.reduceNeg, Int.reduceEq, Int.reduceLT, Int.reduceLE]; with_reducible rfl) ?_
    | ((with_reducible refine chk_r ?_); refine r_callF (by simp only [CA, Nat.reduceEqDiff, ↓reduceIte]; rfl) (by exact rfl) (by simp only [CA, Nat.reduceEqDiff, ↓reduceIte]; rfl) rfl ?_)
    | (with_reducible refine k_condP (by simp only [GA, Nat.reduceEqDiff, ↓reduceIte]; rfl) (by first | (simp only [BO]; rfl) | rfl) (fun ht => ?_) (fun ht => ?_) <;> try (first | exact False.elim ht | exact absurd rfl ht | exact absurd trivial ht | exact Bool.noConfusion ht))
    | (with_reducible refine k_ret ?_; repeat with_reducible (first | refine ret_thru ?_ | refine ret_blk ?_ | refine fin ?_))
    | (with_reducible refine k_exit ?_; repeat with_reducible (first | refine thru ?_ | refine out_blk ?_ | refine pass (by decide) ?_))
    | (refine post1 ?_; simp only [GA, Nat.reduceEqDiff, ↓reduceIte])
    | (refine post2 ?_; simp only [GA, Nat.reduceEqDiff, ↓reduceIte])
    | (refine post3 ?_; simp only [GA, Nat.reduceEqDiff, ↓reduceIte])
    | (refine postc (by simp only [GA, Nat.reduceEqDiff, ↓reduceIte]; rfl) (by simp (disch := omega) only [c86r0, c86r1, c86r2, c86r3, c86r4, c86r5, c86r6, c86r8, EV0, EV1, EV2, EV3, EV4, EV5, EV6, EV7, EV8, VALS, plug, ite_same, decide_true, decide_false, eq_self, ↓reduceIte, reduceCtorEq, Nat.reduceAdd, Nat.reduceEqDiff, Nat.reduceLT, Nat.reduceLeDiff, Nat.reduceMul, Nat.reduceSub, Nat.reduceDiv, Int.reduceToNat, Int.reduceAdd, Int.reduceSub, Int.reduceMul, Int.reduceNeg, Int.reduceEq, Int.reduceLT, Int.reduceLE]; rfl) ?_)
    | refine post0 ?_
  refine k_blk (k_loopS (X := Unit) [0, 1, 7, 8] rows.length (fun k _ => [(0, vRows rows), (1, .fn 87 [] [.pv [vB l] 0, .pv [.i .i64 (i : Int)] 0]), (7, .i .i64 rows.length), (8, .i .i64 (k : Int))]) (fun k _ h => ∀ j, j < k → mayI l (lastN (rows.getD j [])) i = false) () (by simp only [Am.keep, List.map_cons, List.map_nil, GA, Nat.reduceEqDiff, ↓reduceIte]; try rfl) (fun j hj => by omega) ?_)
  rintro k _ h hk hf ok pos
  by_cases hlt : k < rows.length
  · have hlt' : (k : Int) < rows.length := by omega
    have g := rvN_get hlt
    obtain ⟨h1, h2, h3⟩ := hr _ (mem_row hlt)
    have q := pc87 l (rows.getD k []) i h1 h2 hi h3
    have ge := fit_ge (l := l) (i := i) (rows := rows) (k := k) hf hk
    cases hm : mayI l (lastN (rows.getD k [])) i with
    | true =>
      rw [hm] at q
      repeat' first
        | with_reducible refine k_seq ?_
        | with_reducible refine k_skip ?_
        | with_reducible refine k_blkS ?_
        | with_reducible refine k_blkR ?_
        | with_reducible refine k_blkC ?_
        | with_reducible refine k_blkH ?_
        | with_reducible refine k_blkB ?_
        | with_reducible refine k_blkK ?_
        | with_reducible refine k_blkE ?_
        | with_reducible refine k_reg ?_
        | with_reducible refine r_done ?_
        | with_reducible refine s_go (by simp (disch := omega) only [hlt', g, c86r0, c86r1, c86r2, c86r3, c86r4, c86r5, c86r6, c86r8, EV0, EV1, EV2, EV3, EV4, EV5, EV6, EV7, EV8, VALS, plug, ite_same, decide_true, decide_false, eq_self, ↓reduceIte, reduceCtorEq, Nat.reduceAdd, Nat.reduceEqDiff, Nat.reduceLT, Nat.reduceLeDiff, Nat.reduceMul, Nat.reduceSub, Nat.reduceDiv, Int.reduceToNat, Int.reduceAdd, Int.reduceSub, Int.reduceMul, Int.reduceNeg, Int.reduceEq, Int.reduceLT, Int.reduceLE]; with_reducible rfl) ?_
        | ((with_reducible refine chk_r ?_); refine r_callF (by simp only [CA, Nat.reduceEqDiff, ↓reduceIte]; rfl) (by exact rfl) (by simp only [CA, Nat.reduceEqDiff, ↓reduceIte]; rfl) rfl ?_)
        | ((with_reducible refine chk_r ?_); refine r_callP (by simp only [CA, Nat.reduceEqDiff, ↓reduceIte]; rfl) (by simp only [CA, Nat.reduceEqDiff, ↓reduceIte]; rfl) (by first | exact q _) rfl ?_)
        | (with_reducible refine k_condP (by simp only [GA, Nat.reduceEqDiff, ↓reduceIte]; rfl) (by first | (simp only [BO]; rfl) | rfl) (fun ht => ?_) (fun ht => ?_) <;> try (first | exact False.elim ht | exact absurd rfl ht | exact absurd trivial ht | exact Bool.noConfusion ht))
        | (with_reducible refine k_ret ?_; repeat with_reducible (first | refine ret_thru ?_ | refine ret_blk ?_ | refine fin ?_))
        | (with_reducible refine k_exit ?_; repeat with_reducible (first | refine thru ?_ | refine out_blk ?_ | refine pass (by decide) ?_))
        | (refine post1 ?_; simp only [GA, Nat.reduceEqDiff, ↓reduceIte])
        | (refine post2 ?_; simp only [GA, Nat.reduceEqDiff, ↓reduceIte])
        | (refine post3 ?_; simp only [GA, Nat.reduceEqDiff, ↓reduceIte])
        | (refine postc (by simp only [GA, Nat.reduceEqDiff, ↓reduceIte]; rfl) (by simp (disch := omega) only [hlt', g, c86r0, c86r1, c86r2, c86r3, c86r4, c86r5, c86r6, c86r8, EV0, EV1, EV2, EV3, EV4, EV5, EV6, EV7, EV8, VALS, plug, ite_same, decide_true, decide_false, eq_self, ↓reduceIte, reduceCtorEq, Nat.reduceAdd, Nat.reduceEqDiff, Nat.reduceLT, Nat.reduceLeDiff, Nat.reduceMul, Nat.reduceSub, Nat.reduceDiv, Int.reduceToNat, Int.reduceAdd, Int.reduceSub, Int.reduceMul, Int.reduceNeg, Int.reduceEq, Int.reduceLT, Int.reduceLE]; rfl) ?_)
        | refine post0 ?_
      have : fit l rows i = k := by
        refine Nat.le_antisymm (Classical.byContradiction fun h => ?_) ge
        have := fit_no (l := l) (i := i) (rows := rows) (j := k) (by omega)
        rw [hm] at this; cases this
      refine ends_eq (i_eq ?_)
      unfold fitI
      rw [this, if_pos hlt]
    | false =>
      rw [hm] at q
      repeat' first
        | with_reducible refine k_seq ?_
        | with_reducible refine k_skip ?_
        | with_reducible refine k_blkS ?_
        | with_reducible refine k_blkR ?_
        | with_reducible refine k_blkC ?_
        | with_reducible refine k_blkH ?_
        | with_reducible refine k_blkB ?_
        | with_reducible refine k_blkK ?_
        | with_reducible refine k_blkE ?_
        | with_reducible refine k_reg ?_
        | with_reducible refine r_done ?_
        | with_reducible refine s_go (by simp (disch := omega) only [hlt', g, c86r0, c86r1, c86r2, c86r3, c86r4, c86r5, c86r6, c86r8, EV0, EV1, EV2, EV3, EV4, EV5, EV6, EV7, EV8, VALS, plug, ite_same, decide_true, decide_false, eq_self, ↓reduceIte, reduceCtorEq, Nat.reduceAdd, Nat.reduceEqDiff, Nat.reduceLT, Nat.reduceLeDiff, Nat.reduceMul, Nat.reduceSub, Nat.reduceDiv, Int.reduceToNat, Int.reduceAdd, Int.reduceSub, Int.reduceMul, Int.reduceNeg, Int.reduceEq, Int.reduceLT, Int.reduceLE]; with_reducible rfl) ?_
        | ((with_reducible refine chk_r ?_); refine r_callF (by simp only [CA, Nat.reduceEqDiff, ↓reduceIte]; rfl) (by exact rfl) (by simp only [CA, Nat.reduceEqDiff, ↓reduceIte]; rfl) rfl ?_)
        | ((with_reducible refine chk_r ?_); refine r_callP (by simp only [CA, Nat.reduceEqDiff, ↓reduceIte]; rfl) (by simp only [CA, Nat.reduceEqDiff, ↓reduceIte]; rfl) (by first | exact q _) rfl ?_)
        | (with_reducible refine k_condP (by simp only [GA, Nat.reduceEqDiff, ↓reduceIte]; rfl) (by first | (simp only [BO]; rfl) | rfl) (fun ht => ?_) (fun ht => ?_) <;> try (first | exact False.elim ht | exact absurd rfl ht | exact absurd trivial ht | exact Bool.noConfusion ht))
        | (with_reducible refine k_ret ?_; repeat with_reducible (first | refine ret_thru ?_ | refine ret_blk ?_ | refine fin ?_))
        | (with_reducible refine k_exit ?_; repeat with_reducible (first | refine thru ?_ | refine out_blk ?_ | refine pass (by decide) ?_))
        | (refine post1 ?_; simp only [GA, Nat.reduceEqDiff, ↓reduceIte])
        | (refine post2 ?_; simp only [GA, Nat.reduceEqDiff, ↓reduceIte])
        | (refine post3 ?_; simp only [GA, Nat.reduceEqDiff, ↓reduceIte])
        | (refine postc (by simp only [GA, Nat.reduceEqDiff, ↓reduceIte]; rfl) (by simp (disch := omega) only [hlt', g, c86r0, c86r1, c86r2, c86r3, c86r4, c86r5, c86r6, c86r8, EV0, EV1, EV2, EV3, EV4, EV5, EV6, EV7, EV8, VALS, plug, ite_same, decide_true, decide_false, eq_self, ↓reduceIte, reduceCtorEq, Nat.reduceAdd, Nat.reduceEqDiff, Nat.reduceLT, Nat.reduceLeDiff, Nat.reduceMul, Nat.reduceSub, Nat.reduceDiv, Int.reduceToNat, Int.reduceAdd, Int.reduceSub, Int.reduceMul, Int.reduceNeg, Int.reduceEq, Int.reduceLT, Int.reduceLE]; rfl) ?_)
        | refine post0 ?_
      refine ⟨hlt, (), (by simp only [Am.keep, List.map_cons, List.map_nil, GA, Nat.reduceEqDiff, ↓reduceIte]; try rfl), fun j hj => ?_⟩
      by_cases e : j = k
      · subst e; exact hm
      · exact hf j (by omega)
  · obtain rfl : k = rows.length := by omega
    have hlt' : ¬ (rows.length : Int) < rows.length := by omega
    have ge := fit_ge (l := l) (i := i) (rows := rows) (k := rows.length) hf hk
    repeat' first
      | with_reducible refine k_seq ?_
      | with_reducible refine k_skip ?_
      | with_reducible refine k_blkS ?_
      | with_reducible refine k_blkR ?_
      | with_reducible refine k_blkC ?_
      | with_reducible refine k_blkH ?_
      | with_reducible refine k_blkB ?_
      | with_reducible refine k_blkK ?_
      | with_reducible refine k_blkE ?_
      | with_reducible refine k_reg ?_
      | with_reducible refine r_done ?_
      | with_reducible refine s_go (by simp (disch := omega) only [hlt', c86r0, c86r1, c86r2, c86r3, c86r4, c86r5, c86r6, c86r8, EV0, EV1, EV2, EV3, EV4, EV5, EV6, EV7, EV8, VALS, plug, ite_same, decide_true, decide_false, eq_self, ↓reduceIte, reduceCtorEq, Nat.reduceAdd, Nat.reduceEqDiff, Nat.reduceLT, Nat.reduceLeDiff, Nat.reduceMul, Nat.reduceSub, Nat.reduceDiv, Int.reduceToNat, Int.reduceAdd, Int.reduceSub, Int.reduceMul, Int.reduceNeg, Int.reduceEq, Int.reduceLT, Int.reduceLE]; with_reducible rfl) ?_
      | ((with_reducible refine chk_r ?_); refine r_callF (by simp only [CA, Nat.reduceEqDiff, ↓reduceIte]; rfl) (by exact rfl) (by simp only [CA, Nat.reduceEqDiff, ↓reduceIte]; rfl) rfl ?_)
      | (with_reducible refine k_condP (by simp only [GA, Nat.reduceEqDiff, ↓reduceIte]; rfl) (by first | (simp only [BO]; rfl) | rfl) (fun ht => ?_) (fun ht => ?_) <;> try (first | exact False.elim ht | exact absurd rfl ht | exact absurd trivial ht | exact Bool.noConfusion ht))
      | (with_reducible refine k_ret ?_; repeat with_reducible (first | refine ret_thru ?_ | refine ret_blk ?_ | refine fin ?_))
      | (with_reducible refine k_exit ?_; repeat with_reducible (first | refine thru ?_ | refine out_blk ?_ | refine pass (by decide) ?_))
      | (refine post1 ?_; simp only [GA, Nat.reduceEqDiff, ↓reduceIte])
      | (refine post2 ?_; simp only [GA, Nat.reduceEqDiff, ↓reduceIte])
      | (refine post3 ?_; simp only [GA, Nat.reduceEqDiff, ↓reduceIte])
      | (refine postc (by simp only [GA, Nat.reduceEqDiff, ↓reduceIte]; rfl) (by simp (disch := omega) only [hlt', c86r0, c86r1, c86r2, c86r3, c86r4, c86r5, c86r6, c86r8, EV0, EV1, EV2, EV3, EV4, EV5, EV6, EV7, EV8, VALS, plug, ite_same, decide_true, decide_false, eq_self, ↓reduceIte, reduceCtorEq, Nat.reduceAdd, Nat.reduceEqDiff, Nat.reduceLT, Nat.reduceLeDiff, Nat.reduceMul, Nat.reduceSub, Nat.reduceDiv, Int.reduceToNat, Int.reduceAdd, Int.reduceSub, Int.reduceMul, Int.reduceNeg, Int.reduceEq, Int.reduceLT, Int.reduceLE]; rfl) ?_)
      | refine post0 ?_
    refine ends_eq (i_eq ?_)
    unfold fitI
    rw [if_neg (by omega)]
end Go.Proofs.Ytjncfpfgobojpaa
set_option linter.unusedVariables false
set_option linter.unusedSimpArgs false
namespace Go.Proofs.Ytjncfpfgobojpaa
open Go Go.Am Go.Proofs Go.Sort
/-! ### laid -/
theorem od_inj {l : List B} {m k : Nat} (hm : m < l.length) (hk : k < l.length) (e : od l m = od l k) : m = k := by
  have h1 : m < (orderL l).length := by rw [order_len]; exact hm
  have h2 : k < (orderL l).length := by rw [order_len]; exact hk
  have : (orderL l)[m] = (orderL l)[k] := by simpa [od, h1, h2] using e
  exact (List.getElem_inj (order_nodup l)).1 this
theorem int_set {us : List Int} {i j : Nat} {v : Int} (hi : i < us.length) : (us.set i v).getD j 0 = if j = i then v else us.getD j 0 := by
  by_cases e : j = i
  · subst e; simp [List.getD_eq_getElem?_getD, hi]
  · have : ¬ i = j := fun q => e q.symm
    simp [List.getD_eq_getElem?_getD, List.getElem?_set, this, e]
theorem us_step {l : List B} {us : List Int} {k : Nat} {v : Int} (hu : us.length = l.length) (hk : k < l.length) (H : ∀ m, m < k → us.getD (od l m) 0 = undK l m) (hv : v = undK l k) : ∀ m, m < k + 1 → (us.set (od l k) v).getD (od l m) 0 = undK l m := fun m hm => by
  have hx : od l k < us.length := by rw [hu]; exact order_get hk
  rw [int_set hx]
  by_cases e : m = k
  · subst e; rw [if_pos rfl]; exact hv
  · rw [if_neg fun q => e (od_inj (by omega) hk q)]; exact H m (by omega)
/-- what lies under each -/
def undL (l : List B) : List Int := (List.range l.length).map fun x => undK l ((orderL l).idxOf x)
theorem undL_eq {l : List B} {us : List Int} (hu : us.length = l.length) (H : ∀ m, m < l.length → us.getD (od l m) 0 = undK l m) : us = undL l := by
  apply List.ext_getElem
  · rw [hu]; simp [undL]
  · intro x h1 h2
    have hx : x < l.length := by rw [← hu]; exact h1
    have hin := order_mem.2 hx
    have hix : (orderL l).idxOf x < l.length := by rw [← order_len l]; exact List.idxOf_lt_length_iff.2 hin
    have := H _ hix
    have e : od l ((orderL l).idxOf x) = x := by
      have h3 : (orderL l).idxOf x < (orderL l).length := by rw [order_len]; exact hix
      simp only [od, List.getD_eq_getElem?_getD, List.getElem?_eq_getElem h3, Option.getD_some]
      exact List.getElem_idxOf h3
    rw [e] at this
    simp only [undL, List.getElem_map, List.getElem_range]
    rw [← this]; simp [h1]
theorem row_len {l : List B} : ∀ {k : Nat}, k ≤ l.length → ∀ j, ((rowsK l k).getD j []).length ≤ k
  | 0, _, j => by simp [rowsK]
  | k + 1, h, j => by
    have ih := row_len (l := l) (k := k) (by omega) j
    rw [rowsK_get (by omega)]
    split
    · split
      · rw [List.length_append]; simp only [List.length_cons, List.length_nil]; omega
      · simp
    · omega
theorem set_last {cs : List AV} {y z : AV} {n : Nat} (h : cs.length = n) : (cs ++ [z]).set n y = cs ++ [y] := by subst h; simp
theorem get_last {cs : List AV} {z : AV} {n : Nat} (h : cs.length = n) : (cs ++ [z])[n]? = some z := by subst h; simp
theorem get_low {cs : List AV} {z v : AV} {n : Nat} (h : cs[n]? = some v) : (cs ++ [z])[n]? = some v := by
  have : n < cs.length := (List.getElem?_eq_some_iff.1 h).1
  rw [List.getElem?_append_left this]; exact h
set_option maxHeartbeats 2000000 in
theorem pc52 (l : List B) (hv : VL l) : PC Try.prog 52 [vB l] (.tu [vRows (rowsL l), .vs l.length (il (undL l))]) := by
  refine pc_fn fn52 (by simp only [AV.plains, AV.plain, il_plain, bl_plain, Bool.and_true, Bool.true_and, Bool.and_self, flB_plain, rows_plain]) (by simp only [AV.plains, AV.plain, il_plain, bl_plain, Bool.and_true, Bool.true_and, Bool.and_self, flB_plain, rows_plain]) (Nat.le_of_ble_eq_true rfl) ?_
  rw [initSt1]
  have hl := hv.len
  have q85 := pc85 l hv
  refine k_seq (k_reg ?_)
  refine s_go (by simp (disch := omega) only [c52r0, c52r1, c52r2, c52r3, c52r4, c52r5, c52r6, c52r7, c52r8, c52r9, c52r10, c52r11, c52r12, c52r13, c52r14, c52r16, EV0, EV1, EV2, EV3, EV4, EV5, EV6, EV7, EV8, VALS, plug, ite_same, decide_true, decide_false, eq_self, ↓reduceIte, reduceCtorEq, Nat.reduceAdd, Nat.reduceEqDiff, Nat.reduceLT, Nat.reduceLeDiff, Nat.reduceMul, Nat.reduceSub, Nat.reduceDiv, Int.reduceToNat, Int.reduceAdd, Int.reduceSub, Int.reduceMul, Int.reduceNeg, Int.reduceEq, Int.reduceLT, Int.reduceLE]; with_reducible rfl) ?_
  refine r_done ?_
  refine w_frz (t := 1) (cs := [vB l]) (st' := (1, .pv [vB l] 0) :: [(3, .sl 0 0 0 0), (2, .sl 0 0 0 0), (1, .p 1 0), (0, vB l)]) (by simp (disch := omega) only [c52r0, c52r1, c52r2, c52r3, c52r4, c52r5, c52r6, c52r7, c52r8, c52r9, c52r10, c52r11, c52r12, c52r13, c52r14, c52r16, EV0, EV1, EV2, EV3, EV4, EV5, EV6, EV7, EV8, VALS, plug, ite_same, decide_true, decide_false, eq_self, ↓reduceIte, reduceCtorEq, Nat.reduceAdd, Nat.reduceEqDiff, Nat.reduceLT, Nat.reduceLeDiff, Nat.reduceMul, Nat.reduceSub, Nat.reduceDiv, Int.reduceToNat, Int.reduceAdd, Int.reduceSub, Int.reduceMul, Int.reduceNeg, Int.reduceEq, Int.reduceLT, Int.reduceLE] <;> rfl) (fun x => by
    simp only [St.get]
    by_cases e : x = 1
    · subst e; simp only [if_true]; exact .p
    · simp only [if_neg e]; exact .same) ?_
  repeat' first
    | with_reducible refine k_seq ?_
    | with_reducible refine k_skip ?_
    | with_reducible refine k_blkS ?_
    | with_reducible refine k_blkR ?_
    | with_reducible refine k_blkC ?_
    | with_reducible refine k_blkH ?_
    | with_reducible refine k_blkB ?_
    | with_reducible refine k_blkK ?_
    | with_reducible refine k_blkE ?_
    | with_reducible refine k_reg ?_
    | with_reducible refine k_head (by with_unfolding_all rfl) ?_
    | with_reducible refine k_headS ?_
    | (with_reducible refine SepK.mk ?_ ?_; (refine sepQ_P ?_; simp [sepQ, sepG, AOp.late, AOp.free, AOp.xs, AOp.isAl, tokNe, AV.tok, stS_get, strip, AX.val, c52r0, c52r1, c52r2, c52r3, c52r4, c52r5, c52r6, c52r7, c52r8, c52r9, c52r10, c52r11, c52r12, c52r13, c52r14, c52r16, GA]; try omega))
    | with_reducible refine r_done ?_
    | with_reducible refine hr_done ?_
    | with_reducible refine s_go (by simp (disch := omega) only [c52r0, c52r1, c52r2, c52r3, c52r4, c52r5, c52r6, c52r7, c52r8, c52r9, c52r10, c52r11, c52r12, c52r13, c52r14, c52r16, EV0, EV1, EV2, EV3, EV4, EV5, EV6, EV7, EV8, VALS, plug, ite_same, decide_true, decide_false, eq_self, ↓reduceIte, reduceCtorEq, Nat.reduceAdd, Nat.reduceEqDiff, Nat.reduceLT, Nat.reduceLeDiff, Nat.reduceMul, Nat.reduceSub, Nat.reduceDiv, Int.reduceToNat, Int.reduceAdd, Int.reduceSub, Int.reduceMul, Int.reduceNeg, Int.reduceEq, Int.reduceLT, Int.reduceLE]; with_reducible rfl) ?_
    | with_reducible refine h_go (by with_unfolding_all rfl) (by simp (disch := omega) only [c52r0, c52r1, c52r2, c52r3, c52r4, c52r5, c52r6, c52r7, c52r8, c52r9, c52r10, c52r11, c52r12, c52r13, c52r14, c52r16, EV0, EV1, EV2, EV3, EV4, EV5, EV6, EV7, EV8, VALS, plug, ite_same, decide_true, decide_false, eq_self, ↓reduceIte, reduceCtorEq, Nat.reduceAdd, Nat.reduceEqDiff, Nat.reduceLT, Nat.reduceLeDiff, Nat.reduceMul, Nat.reduceSub, Nat.reduceDiv, Int.reduceToNat, Int.reduceAdd, Int.reduceSub, Int.reduceMul, Int.reduceNeg, Int.reduceEq, Int.reduceLT, Int.reduceLE]; with_reducible rfl) ?_
    | ((with_reducible refine chk_r ?_); refine r_callF (by simp only [CA, Nat.reduceEqDiff, ↓reduceIte]; rfl) (by exact rfl) (by simp only [CA, Nat.reduceEqDiff, ↓reduceIte]; rfl) rfl ?_)
    | ((with_reducible refine chk_h ?_); refine hr_callF (by simp only [CA, Nat.reduceEqDiff, ↓reduceIte]; rfl) (by exact rfl) (by simp only [CA, Nat.reduceEqDiff, ↓reduceIte]; rfl) rfl ?_)
    | ((with_reducible refine chk_r ?_); refine r_callP (by simp only [CA, Nat.reduceEqDiff, ↓reduceIte]; rfl) (by simp only [CA, Nat.reduceEqDiff, ↓reduceIte]; rfl) (by first | exact q85 _) rfl ?_)
    | ((with_reducible refine chk_h ?_); refine hr_callP (by simp only [CA, Nat.reduceEqDiff, ↓reduceIte]; rfl) (by simp only [CA, Nat.reduceEqDiff, ↓reduceIte]; rfl) (by first | exact q85 _) rfl ?_)
    | ((with_reducible refine chk_h ?_); refine hr_callP1 (by simp only [CA, Nat.reduceEqDiff, ↓reduceIte]; rfl) (by simp only [CA, Nat.reduceEqDiff, ↓reduceIte]; rfl) (by simp (disch := omega) only [CA, Nat.reduceEqDiff, ↓reduceIte, firstTok_nil, firstTok_sl, firstTok_sl0, firstTok_i, firstTok_b, firstTok_ag, firstTok_p, firstTok_s]; rfl) (by first | exact q85 _) rfl ?_)
    | ((with_reducible refine chk_h ?_); refine hr_app (by simp (disch := omega) only [c52r0, c52r1, c52r2, c52r3, c52r4, c52r5, c52r6, c52r7, c52r8, c52r9, c52r10, c52r11, c52r12, c52r13, c52r14, c52r16, EV0, EV1, EV2, EV3, EV4, EV5, EV6, EV7, EV8, VALS, plug, ite_same, decide_true, decide_false, eq_self, ↓reduceIte, reduceCtorEq, Nat.reduceAdd, Nat.reduceEqDiff, Nat.reduceLT, Nat.reduceLeDiff, Nat.reduceMul, Nat.reduceSub, Nat.reduceDiv, Int.reduceToNat, Int.reduceAdd, Int.reduceSub, Int.reduceMul, Int.reduceNeg, Int.reduceEq, Int.reduceLT, Int.reduceLE]; with_reducible rfl) rfl ?_)
    | (with_reducible refine k_condP (by simp only [GA, Nat.reduceEqDiff, ↓reduceIte]; rfl) (by first | (simp only [BO]; rfl) | rfl) (fun ht => ?_) (fun ht => ?_) <;> try (first | exact False.elim ht | exact absurd rfl ht | exact absurd trivial ht | exact Bool.noConfusion ht))
    | (with_reducible refine k_ret ?_; repeat with_reducible (first | refine ret_thru ?_ | refine ret_blk ?_ | refine fin ?_))
    | (with_reducible refine k_exit ?_; repeat with_reducible (first | refine thru ?_ | refine out_blk ?_ | refine pass (by decide) ?_))
    | (refine post1 ?_; simp only [GA, Nat.reduceEqDiff, ↓reduceIte])
    | (refine post2 ?_; simp only [GA, Nat.reduceEqDiff, ↓reduceIte])
    | (refine post3 ?_; simp only [GA, Nat.reduceEqDiff, ↓reduceIte])
    | (refine postc (by simp only [GA, Nat.reduceEqDiff, ↓reduceIte]; rfl) (by simp (disch := omega) only [c52r0, c52r1, c52r2, c52r3, c52r4, c52r5, c52r6, c52r7, c52r8, c52r9, c52r10, c52r11, c52r12, c52r13, c52r14, c52r16, EV0, EV1, EV2, EV3, EV4, EV5, EV6, EV7, EV8, VALS, plug, ite_same, decide_true, decide_false, eq_self, ↓reduceIte, reduceCtorEq, Nat.reduceAdd, Nat.reduceEqDiff, Nat.reduceLT, Nat.reduceLeDiff, Nat.reduceMul, Nat.reduceSub, Nat.reduceDiv, Int.reduceToNat, Int.reduceAdd, Int.reduceSub, Int.reduceMul, Int.reduceNeg, Int.reduceEq, Int.reduceLT, Int.reduceLE]; rfl) ?_)
    | refine post0 ?_
  refine w_virt 1 2 rfl ?_
  refine k_blk (k_loopS (X := Nat × List Nat × Nat × List Int) [1, 2, 3, 12, 13, 14] l.length (fun k x => [(1, .pv [vB l] 0), (2, .sl x.1 0 (rowsK l k).length 1), (3, .sl x.2.2.1 0 l.length 1), (12, .vs l.length (nl (orderL l))), (13, .i .i64 l.length), (14, .i .i64 (k : Int))])
    (fun k x h => Nest h 1 x.1 x.2.1 ((rowsK l k).map rw1) ∧ x.2.2.1 ≠ 0 ∧ x.2.2.1 ≠ x.1 ∧ x.2.2.1 ∉ x.2.1 ∧ h.m x.2.2.1 = some (.cells true (il x.2.2.2)) ∧ x.2.2.2.length = l.length ∧ ∀ m, m < k → x.2.2.2.getD (od l m) 0 = undK l m) (_, [], _, List.replicate l.length 0) (by simp only [Am.keep, List.map_cons, List.map_nil, GA, Nat.reduceEqDiff, ↓reduceIte]; try rfl) ⟨.nil (by simp (disch := omega) only [c52r0, c52r1, c52r2, c52r3, c52r4, c52r5, c52r6, c52r7, c52r8, c52r9, c52r10, c52r11, c52r12, c52r13, c52r14, c52r16, EV0, EV1, EV2, EV3, EV4, EV5, EV6, EV7, EV8, VALS, plug, ite_same, decide_true, decide_false, eq_self, ↓reduceIte, reduceCtorEq, Nat.reduceAdd, Nat.reduceEqDiff, Nat.reduceLT, Nat.reduceLeDiff, Nat.reduceMul, Nat.reduceSub, Nat.reduceDiv, Int.reduceToNat, Int.reduceAdd, Int.reduceSub, Int.reduceMul, Int.reduceNeg, Int.reduceEq, Int.reduceLT, Int.reduceLE] <;> rfl) (by simp only [AH.bump_nx]; omega), ?_, ?_, by simp, by simp (disch := omega) only [il_rep, c52r0, c52r1, c52r2, c52r3, c52r4, c52r5, c52r6, c52r7, c52r8, c52r9, c52r10, c52r11, c52r12, c52r13, c52r14, c52r16, EV0, EV1, EV2, EV3, EV4, EV5, EV6, EV7, EV8, VALS, plug, ite_same, decide_true, decide_false, eq_self, ↓reduceIte, reduceCtorEq, Nat.reduceAdd, Nat.reduceEqDiff, Nat.reduceLT, Nat.reduceLeDiff, Nat.reduceMul, Nat.reduceSub, Nat.reduceDiv, Int.reduceToNat, Int.reduceAdd, Int.reduceSub, Int.reduceMul, Int.reduceNeg, Int.reduceEq, Int.reduceLT, Int.reduceLE] <;> rfl, by simp, fun m hm => by omega⟩ ?_)
  · simp only [AH.bump_nx, AH.set_nx, AH.kill_nx, H1_nx]; omega
  · simp only [AH.bump_nx, AH.set_nx, AH.kill_nx, H1_nx]; omega
  rintro k ⟨r, ts, u, us⟩ h hk ⟨N, u0, ur, un, hu, hul, hus⟩ ok pos
  simp only at N u0 ur un hu hul hus ⊢
  have hr := N.hr
  have r0 := N.r0
  have lr := ok.m hr
  have lu := ok.m hu
  have tlt := Nest.lt N ok
  have Nl : ((rowsK l k).map rw1).length = (rowsK l k).length := List.length_map _
  have ru : ¬ r = u := fun e => ur e.symm
  by_cases hlt : k < l.length
  · have hlt' : (k : Int) < l.length := by omega
    have Rk := rk (l := l) (k := k) (by omega)
    have hx : od l k < l.length := order_get hlt
    have gx : (nl (orderL l))[k]? = some (.i .i64 ((od l k : Nat) : Int)) := nl_get (by rw [order_len]; exact hlt)
    have rl := rowsK_len l (k := k) (by omega)
    have rin : ∀ j, j < (rowsK l k).length → ((rowsK l k).getD j []).length ≤ 40 := fun j hj => by
      have := row_len (l := l) (k := k) (by omega) j
      omega
    have q86 := pc86 l (rowsK l k) (od l k) (fun r hr => ⟨Rk.ne r hr, by
      obtain ⟨j, hj, e⟩ := Rk.mem r hr _ (last_mem (Rk.ne r hr))
      rw [← e]; exact order_get (by omega), by
      obtain ⟨j, hj, e⟩ := List.getElem_of_mem hr
      have := rin j hj
      rw [getD_lt hj, e] at this; omega⟩) hx (by omega)
    have hat := rowsK_at hlt
    have hfl := rowAt_le l k
    have hfi : fitI l (rowsK l k) (od l k) = if rowAt l k < (rowsK l k).length then (rowAt l k : Int) else -1 := rfl
    have hund : undK l k = (if rowAt l k = 0 then (-1 : Int) else ((lastN ((rowsK l k).getD (rowAt l k - 1) []) : Nat) : Int)) := rfl
    have now : ∀ h2 : AH, (∀ t b, h.m t = some b → h2.m t = some b) → Now h2 (.sl r 0 (rowsK l k).length 1) (vRows (rowsK l k)) := fun h2 F => by
      have := (N.keep F).now rw_plain 1
      rwa [Nl, rv_map] at this
    rw [hfi] at q86
    generalize hfx : rowAt l k = f at *
    have usl : od l k < us.length := by omega
    by_cases hf : f < (rowsK l k).length
    · rw [if_pos hf] at q86 hat
      have cf := N.cell (i := f) (by omega)
      rw [rD_map hf] at cf
      have hf' : (f : Int) < (rowsK l k).length := by omega
      have nf : ¬ (f : Int) < 0 := by omega
      have tf := N.row (i := f) (by omega)
      rw [rD_map hf] at tf
      have mf := N.mem (i := f) (by omega)
      have ltf := tlt _ mf
      have nef := N.ne (i := f) (by omega)
      have nefu : ¬ tD ts f = u := fun e => un (e ▸ mf)
      have rlf := rin f hf
      have csl := rC_len (k := 1) N.len
      rw [Nl] at csl
      simp only at cf tf
      generalize hcs : rC 1 ts ((rowsK l k).map rw1) = cs at hr cf csl
      have hlen1 : (rowsK l (k + 1)).length = (rowsK l k).length := by rw [hat, List.length_set]
      have e0 : rw1 ((rowsK l k).getD f [] ++ [od l k]) = (((rowsK l k).getD f []).length + 1, nl ((rowsK l k).getD f [] ++ [od l k])) := by simp [rw1]
      have hn1 : (((rowsK l k).getD f []).length + 1) * 1 = (nl ((rowsK l k).getD f [] ++ [od l k])).length := by simp [nl_len]
      cases f with
      | zero =>
        have h0 : ¬ (0 : Int) < ((0 : Nat) : Int) := by omega
        rw [if_pos rfl] at hund
        repeat' first
          | with_reducible refine k_seq ?_
          | with_reducible refine k_skip ?_
          | with_reducible refine k_blkS ?_
          | with_reducible refine k_blkR ?_
          | with_reducible refine k_blkC ?_
          | with_reducible refine k_blkH ?_
          | with_reducible refine k_blkB ?_
          | with_reducible refine k_blkK ?_
          | with_reducible refine k_blkE ?_
          | with_reducible refine k_reg ?_
          | with_reducible refine k_head (by with_unfolding_all rfl) ?_
          | with_reducible refine k_headS ?_
          | (with_reducible refine SepK.mk ?_ ?_; (refine sepQ_P ?_; simp [sepQ, sepG, AOp.late, AOp.free, AOp.xs, AOp.isAl, tokNe, AV.tok, stS_get, strip, AX.val, c52r0, c52r1, c52r2, c52r3, c52r4, c52r5, c52r6, c52r7, c52r8, c52r9, c52r10, c52r11, c52r12, c52r13, c52r14, c52r16, GA]; try omega))
          | with_reducible refine r_done ?_
          | with_reducible refine hr_done ?_
          | with_reducible refine s_go (by simp (disch := omega) only [hlt', gx, hx, hr, row_m hr, read_row (row_m hr), hu, row_m hu, read_row (row_m hu), csl, hul, usl, nl_len, nl_snoc, tf, row_m tf, read_row (row_m tf), cf, nf, hf', h0, c52r0, c52r1, c52r2, c52r3, c52r4, c52r5, c52r6, c52r7, c52r8, c52r9, c52r10, c52r11, c52r12, c52r13, c52r14, c52r16, EV0, EV1, EV2, EV3, EV4, EV5, EV6, EV7, EV8, VALS, plug, ite_same, decide_true, decide_false, eq_self, ↓reduceIte, reduceCtorEq, Nat.reduceAdd, Nat.reduceEqDiff, Nat.reduceLT, Nat.reduceLeDiff, Nat.reduceMul, Nat.reduceSub, Nat.reduceDiv, Int.reduceToNat, Int.reduceAdd, Int.reduceSub, Int.reduceMul, Int.reduceNeg, Int.reduceEq, Int.reduceLT, Int.reduceLE]; with_reducible rfl) ?_
          | with_reducible refine h_go (by with_unfolding_all rfl) (by simp (disch := omega) only [hlt', gx, hx, hr, row_m hr, read_row (row_m hr), hu, row_m hu, read_row (row_m hu), csl, hul, usl, nl_len, nl_snoc, tf, row_m tf, read_row (row_m tf), cf, nf, hf', h0, c52r0, c52r1, c52r2, c52r3, c52r4, c52r5, c52r6, c52r7, c52r8, c52r9, c52r10, c52r11, c52r12, c52r13, c52r14, c52r16, EV0, EV1, EV2, EV3, EV4, EV5, EV6, EV7, EV8, VALS, plug, ite_same, decide_true, decide_false, eq_self, ↓reduceIte, reduceCtorEq, Nat.reduceAdd, Nat.reduceEqDiff, Nat.reduceLT, Nat.reduceLeDiff, Nat.reduceMul, Nat.reduceSub, Nat.reduceDiv, Int.reduceToNat, Int.reduceAdd, Int.reduceSub, Int.reduceMul, Int.reduceNeg, Int.reduceEq, Int.reduceLT, Int.reduceLE]; with_reducible rfl) ?_
          | ((with_reducible refine chk_r ?_); refine r_callF (by simp only [CA, Nat.reduceEqDiff, ↓reduceIte]; rfl) (by exact rfl) (by simp only [CA, Nat.reduceEqDiff, ↓reduceIte]; rfl) rfl ?_)
          | ((with_reducible refine chk_h ?_); refine hr_callF (by simp only [CA, Nat.reduceEqDiff, ↓reduceIte]; rfl) (by exact rfl) (by simp only [CA, Nat.reduceEqDiff, ↓reduceIte]; rfl) rfl ?_)
          | ((with_reducible refine chk_r ?_); refine r_callP (by simp only [CA, Nat.reduceEqDiff, ↓reduceIte]; rfl) (by simp only [CA, Nat.reduceEqDiff, ↓reduceIte]; rfl) (by first | ((refine PC.at q86 rfl ?_; refine .cons (now _ ?_) (.cons (.fn .nil (.cons (.same (by simp only [AV.plain, AV.plains, flB_plain, Bool.and_true])) (.cons (.p (by simp (disch := omega) only [c52r0, c52r1, c52r2, c52r3, c52r4, c52r5, c52r6, c52r7, c52r8, c52r9, c52r10, c52r11, c52r12, c52r13, c52r14, c52r16, EV0, EV1, EV2, EV3, EV4, EV5, EV6, EV7, EV8, VALS, plug, ite_same, decide_true, decide_false, eq_self, ↓reduceIte, reduceCtorEq, Nat.reduceAdd, Nat.reduceEqDiff, Nat.reduceLT, Nat.reduceLeDiff, Nat.reduceMul, Nat.reduceSub, Nat.reduceDiv, Int.reduceToNat, Int.reduceAdd, Int.reduceSub, Int.reduceMul, Int.reduceNeg, Int.reduceEq, Int.reduceLT, Int.reduceLE] <;> rfl) (Nows.same rfl)) .nil))) .nil); intro t b hb; have := ok.m hb; simp (disch := omega) only [hb, c52r0, c52r1, c52r2, c52r3, c52r4, c52r5, c52r6, c52r7, c52r8, c52r9, c52r10, c52r11, c52r12, c52r13, c52r14, c52r16, EV0, EV1, EV2, EV3, EV4, EV5, EV6, EV7, EV8, VALS, plug, ite_same, decide_true, decide_false, eq_self, ↓reduceIte, reduceCtorEq, Nat.reduceAdd, Nat.reduceEqDiff, Nat.reduceLT, Nat.reduceLeDiff, Nat.reduceMul, Nat.reduceSub, Nat.reduceDiv, Int.reduceToNat, Int.reduceAdd, Int.reduceSub, Int.reduceMul, Int.reduceNeg, Int.reduceEq, Int.reduceLT, Int.reduceLE]); all_goals fail)) rfl ?_)
          | ((with_reducible refine chk_h ?_); refine hr_callP (by simp only [CA, Nat.reduceEqDiff, ↓reduceIte]; rfl) (by simp only [CA, Nat.reduceEqDiff, ↓reduceIte]; rfl) (by first | ((refine PC.at q86 rfl ?_; refine .cons (now _ ?_) (.cons (.fn .nil (.cons (.same (by simp only [AV.plain, AV.plains, flB_plain, Bool.and_true])) (.cons (.p (by simp (disch := omega) only [c52r0, c52r1, c52r2, c52r3, c52r4, c52r5, c52r6, c52r7, c52r8, c52r9, c52r10, c52r11, c52r12, c52r13, c52r14, c52r16, EV0, EV1, EV2, EV3, EV4, EV5, EV6, EV7, EV8, VALS, plug, ite_same, decide_true, decide_false, eq_self, ↓reduceIte, reduceCtorEq, Nat.reduceAdd, Nat.reduceEqDiff, Nat.reduceLT, Nat.reduceLeDiff, Nat.reduceMul, Nat.reduceSub, Nat.reduceDiv, Int.reduceToNat, Int.reduceAdd, Int.reduceSub, Int.reduceMul, Int.reduceNeg, Int.reduceEq, Int.reduceLT, Int.reduceLE] <;> rfl) (Nows.same rfl)) .nil))) .nil); intro t b hb; have := ok.m hb; simp (disch := omega) only [hb, c52r0, c52r1, c52r2, c52r3, c52r4, c52r5, c52r6, c52r7, c52r8, c52r9, c52r10, c52r11, c52r12, c52r13, c52r14, c52r16, EV0, EV1, EV2, EV3, EV4, EV5, EV6, EV7, EV8, VALS, plug, ite_same, decide_true, decide_false, eq_self, ↓reduceIte, reduceCtorEq, Nat.reduceAdd, Nat.reduceEqDiff, Nat.reduceLT, Nat.reduceLeDiff, Nat.reduceMul, Nat.reduceSub, Nat.reduceDiv, Int.reduceToNat, Int.reduceAdd, Int.reduceSub, Int.reduceMul, Int.reduceNeg, Int.reduceEq, Int.reduceLT, Int.reduceLE]); all_goals fail)) rfl ?_)
          | ((with_reducible refine chk_h ?_); refine hr_callP1 (by simp only [CA, Nat.reduceEqDiff, ↓reduceIte]; rfl) (by simp only [CA, Nat.reduceEqDiff, ↓reduceIte]; rfl) (by simp (disch := omega) only [CA, Nat.reduceEqDiff, ↓reduceIte, firstTok_nil, firstTok_sl, firstTok_sl0, firstTok_i, firstTok_b, firstTok_ag, firstTok_p, firstTok_s]; rfl) (by first | ((refine PC.at q86 rfl ?_; refine .cons (now _ ?_) (.cons (.fn .nil (.cons (.same (by simp only [AV.plain, AV.plains, flB_plain, Bool.and_true])) (.cons (.p (by simp (disch := omega) only [c52r0, c52r1, c52r2, c52r3, c52r4, c52r5, c52r6, c52r7, c52r8, c52r9, c52r10, c52r11, c52r12, c52r13, c52r14, c52r16, EV0, EV1, EV2, EV3, EV4, EV5, EV6, EV7, EV8, VALS, plug, ite_same, decide_true, decide_false, eq_self, ↓reduceIte, reduceCtorEq, Nat.reduceAdd, Nat.reduceEqDiff, Nat.reduceLT, Nat.reduceLeDiff, Nat.reduceMul, Nat.reduceSub, Nat.reduceDiv, Int.reduceToNat, Int.reduceAdd, Int.reduceSub, Int.reduceMul, Int.reduceNeg, Int.reduceEq, Int.reduceLT, Int.reduceLE] <;> rfl) (Nows.same rfl)) .nil))) .nil); intro t b hb; have := ok.m hb; simp (disch := omega) only [hb, c52r0, c52r1, c52r2, c52r3, c52r4, c52r5, c52r6, c52r7, c52r8, c52r9, c52r10, c52r11, c52r12, c52r13, c52r14, c52r16, EV0, EV1, EV2, EV3, EV4, EV5, EV6, EV7, EV8, VALS, plug, ite_same, decide_true, decide_false, eq_self, ↓reduceIte, reduceCtorEq, Nat.reduceAdd, Nat.reduceEqDiff, Nat.reduceLT, Nat.reduceLeDiff, Nat.reduceMul, Nat.reduceSub, Nat.reduceDiv, Int.reduceToNat, Int.reduceAdd, Int.reduceSub, Int.reduceMul, Int.reduceNeg, Int.reduceEq, Int.reduceLT, Int.reduceLE]); all_goals fail)) rfl ?_)
          | ((with_reducible refine chk_h ?_); refine hr_app (by simp (disch := omega) only [hlt', gx, hx, hr, row_m hr, read_row (row_m hr), hu, row_m hu, read_row (row_m hu), csl, hul, usl, nl_len, nl_snoc, tf, row_m tf, read_row (row_m tf), cf, nf, hf', h0, c52r0, c52r1, c52r2, c52r3, c52r4, c52r5, c52r6, c52r7, c52r8, c52r9, c52r10, c52r11, c52r12, c52r13, c52r14, c52r16, EV0, EV1, EV2, EV3, EV4, EV5, EV6, EV7, EV8, VALS, plug, ite_same, decide_true, decide_false, eq_self, ↓reduceIte, reduceCtorEq, Nat.reduceAdd, Nat.reduceEqDiff, Nat.reduceLT, Nat.reduceLeDiff, Nat.reduceMul, Nat.reduceSub, Nat.reduceDiv, Int.reduceToNat, Int.reduceAdd, Int.reduceSub, Int.reduceMul, Int.reduceNeg, Int.reduceEq, Int.reduceLT, Int.reduceLE]; with_reducible rfl) rfl ?_)
          | (with_reducible refine k_condP (by simp only [GA, Nat.reduceEqDiff, ↓reduceIte]; rfl) (by first | (simp only [BO]; rfl) | rfl) (fun ht => ?_) (fun ht => ?_) <;> try (first | exact False.elim ht | exact absurd rfl ht | exact absurd trivial ht | exact Bool.noConfusion ht))
          | (with_reducible refine k_ret ?_; repeat with_reducible (first | refine ret_thru ?_ | refine ret_blk ?_ | refine fin ?_))
          | (with_reducible refine k_exit ?_; repeat with_reducible (first | refine thru ?_ | refine out_blk ?_ | refine pass (by decide) ?_))
          | (refine post1 ?_; simp only [GA, Nat.reduceEqDiff, ↓reduceIte])
          | (refine post2 ?_; simp only [GA, Nat.reduceEqDiff, ↓reduceIte])
          | (refine post3 ?_; simp only [GA, Nat.reduceEqDiff, ↓reduceIte])
          | (refine postc (by simp only [GA, Nat.reduceEqDiff, ↓reduceIte]; rfl) (by simp (disch := omega) only [hlt', gx, hx, hr, row_m hr, read_row (row_m hr), hu, row_m hu, read_row (row_m hu), csl, hul, usl, nl_len, nl_snoc, tf, row_m tf, read_row (row_m tf), cf, nf, hf', h0, c52r0, c52r1, c52r2, c52r3, c52r4, c52r5, c52r6, c52r7, c52r8, c52r9, c52r10, c52r11, c52r12, c52r13, c52r14, c52r16, EV0, EV1, EV2, EV3, EV4, EV5, EV6, EV7, EV8, VALS, plug, ite_same, decide_true, decide_false, eq_self, ↓reduceIte, reduceCtorEq, Nat.reduceAdd, Nat.reduceEqDiff, Nat.reduceLT, Nat.reduceLeDiff, Nat.reduceMul, Nat.reduceSub, Nat.reduceDiv, Int.reduceToNat, Int.reduceAdd, Int.reduceSub, Int.reduceMul, Int.reduceNeg, Int.reduceEq, Int.reduceLT, Int.reduceLE]; rfl) ?_)
          | refine post0 ?_
        refine ⟨hlt, ⟨r, ts.set 0 (h.nx + 1 + 4 + 4 + 2 + 4 + 2 + 8), u, (us.set (od l k) (-1))⟩, ?g1, ?g2, u0, ur, ?g3, ?g4, ?g5, ?g6⟩
        case g1 =>
          simp only [Am.keep, List.map_cons, List.map_nil, GA, Nat.reduceEqDiff, ↓reduceIte, hlen1]
          rfl
        case g2 =>
          rw [hat, List.map_set, e0]
          refine N.put (by omega) hn1 (by omega) (by omega) (fun hm => by have := tlt _ hm; omega) (by rw [hcs]; simp (disch := omega) only [c52r0, c52r1, c52r2, c52r3, c52r4, c52r5, c52r6, c52r7, c52r8, c52r9, c52r10, c52r11, c52r12, c52r13, c52r14, c52r16, EV0, EV1, EV2, EV3, EV4, EV5, EV6, EV7, EV8, VALS, plug, ite_same, decide_true, decide_false, eq_self, ↓reduceIte, reduceCtorEq, Nat.reduceAdd, Nat.reduceEqDiff, Nat.reduceLT, Nat.reduceLeDiff, Nat.reduceMul, Nat.reduceSub, Nat.reduceDiv, Int.reduceToNat, Int.reduceAdd, Int.reduceSub, Int.reduceMul, Int.reduceNeg, Int.reduceEq, Int.reduceLT, Int.reduceLE] <;> rfl) (by simp (disch := omega) only [c52r0, c52r1, c52r2, c52r3, c52r4, c52r5, c52r6, c52r7, c52r8, c52r9, c52r10, c52r11, c52r12, c52r13, c52r14, c52r16, EV0, EV1, EV2, EV3, EV4, EV5, EV6, EV7, EV8, VALS, plug, ite_same, decide_true, decide_false, eq_self, ↓reduceIte, reduceCtorEq, Nat.reduceAdd, Nat.reduceEqDiff, Nat.reduceLT, Nat.reduceLeDiff, Nat.reduceMul, Nat.reduceSub, Nat.reduceDiv, Int.reduceToNat, Int.reduceAdd, Int.reduceSub, Int.reduceMul, Int.reduceNeg, Int.reduceEq, Int.reduceLT, Int.reduceLE] <;> rfl) fun s b hs hne hb => ?_
          have l1 := tlt s hs
          have n1 := (N.nr s hs).2
          have n2 : ¬ s = u := fun e => un (e ▸ hs)
          simp (disch := omega) only [hb, c52r0, c52r1, c52r2, c52r3, c52r4, c52r5, c52r6, c52r7, c52r8, c52r9, c52r10, c52r11, c52r12, c52r13, c52r14, c52r16, EV0, EV1, EV2, EV3, EV4, EV5, EV6, EV7, EV8, VALS, plug, ite_same, decide_true, decide_false, eq_self, ↓reduceIte, reduceCtorEq, Nat.reduceAdd, Nat.reduceEqDiff, Nat.reduceLT, Nat.reduceLeDiff, Nat.reduceMul, Nat.reduceSub, Nat.reduceDiv, Int.reduceToNat, Int.reduceAdd, Int.reduceSub, Int.reduceMul, Int.reduceNeg, Int.reduceEq, Int.reduceLT, Int.reduceLE]
        case g3 =>
          intro hm
          rcases List.mem_or_eq_of_mem_set hm with q | q
          · exact un q
          · simp only [] at q; omega
        case g4 => simp (disch := omega) only [hu, List.set_set, c52r0, c52r1, c52r2, c52r3, c52r4, c52r5, c52r6, c52r7, c52r8, c52r9, c52r10, c52r11, c52r12, c52r13, c52r14, c52r16, EV0, EV1, EV2, EV3, EV4, EV5, EV6, EV7, EV8, VALS, plug, ite_same, decide_true, decide_false, eq_self, ↓reduceIte, reduceCtorEq, Nat.reduceAdd, Nat.reduceEqDiff, Nat.reduceLT, Nat.reduceLeDiff, Nat.reduceMul, Nat.reduceSub, Nat.reduceDiv, Int.reduceToNat, Int.reduceAdd, Int.reduceSub, Int.reduceMul, Int.reduceNeg, Int.reduceEq, Int.reduceLT, Int.reduceLE] <;> rfl
        case g5 => simp only [List.length_set]; exact hul
        case g6 => exact us_step hul hlt hus (by rw [hund]; try rfl)
      | succ f =>
        have h0 : (0 : Int) < ((f + 1 : Nat) : Int) := by omega
        rw [if_neg (by omega), Nat.add_sub_cancel] at hund
        have e1 : ((f + 1 : Nat) : Int) - 1 = (f : Int) := by omega
        have hg : f < (rowsK l k).length := by omega
        have hg' : (f : Int) < (rowsK l k).length := by omega
        have cg := N.cell (i := f) (by omega)
        rw [rD_map hg, hcs] at cg
        have tg := N.row (i := f) (by omega)
        rw [rD_map hg] at tg
        have mg := N.mem (i := f) (by omega)
        have ltg := tlt _ mg
        have neg := N.ne (i := f) (by omega)
        have negu : ¬ tD ts f = u := fun e => un (e ▸ mg)
        have rlg := rin f hg
        have hne := Rk.ne _ (mem_row hg)
        have hp : 0 < ((rowsK l k).getD f []).length := List.length_pos_iff.2 hne
        have e2 : (((rowsK l k).getD f []).length : Int) - 1 = ((((rowsK l k).getD f []).length - 1 : Nat) : Int) := by omega
        have e3 : ((rowsK l k).getD f []).length - 1 < ((rowsK l k).getD f []).length := by omega
        have g := last_get hne
        simp only at cg tg
        repeat' first
          | with_reducible refine k_seq ?_
          | with_reducible refine k_skip ?_
          | with_reducible refine k_blkS ?_
          | with_reducible refine k_blkR ?_
          | with_reducible refine k_blkC ?_
          | with_reducible refine k_blkH ?_
          | with_reducible refine k_blkB ?_
          | with_reducible refine k_blkK ?_
          | with_reducible refine k_blkE ?_
          | with_reducible refine k_reg ?_
          | with_reducible refine k_head (by with_unfolding_all rfl) ?_
          | with_reducible refine k_headS ?_
          | (with_reducible refine SepK.mk ?_ ?_; (refine sepQ_P ?_; simp [sepQ, sepG, AOp.late, AOp.free, AOp.xs, AOp.isAl, tokNe, AV.tok, stS_get, strip, AX.val, c52r0, c52r1, c52r2, c52r3, c52r4, c52r5, c52r6, c52r7, c52r8, c52r9, c52r10, c52r11, c52r12, c52r13, c52r14, c52r16, GA]; try omega))
          | with_reducible refine r_done ?_
          | with_reducible refine hr_done ?_
          | with_reducible refine s_go (by simp (disch := omega) only [hlt', gx, hx, hr, row_m hr, read_row (row_m hr), hu, row_m hu, read_row (row_m hu), csl, hul, usl, nl_len, nl_snoc, tf, row_m tf, read_row (row_m tf), cf, nf, hf', h0, e1, hg', tg, row_m tg, read_row (row_m tg), cg, e2, e3, g, List.set_set, List.length_set, c52r0, c52r1, c52r2, c52r3, c52r4, c52r5, c52r6, c52r7, c52r8, c52r9, c52r10, c52r11, c52r12, c52r13, c52r14, c52r16, EV0, EV1, EV2, EV3, EV4, EV5, EV6, EV7, EV8, VALS, plug, ite_same, decide_true, decide_false, eq_self, ↓reduceIte, reduceCtorEq, Nat.reduceAdd, Nat.reduceEqDiff, Nat.reduceLT, Nat.reduceLeDiff, Nat.reduceMul, Nat.reduceSub, Nat.reduceDiv, Int.reduceToNat, Int.reduceAdd, Int.reduceSub, Int.reduceMul, Int.reduceNeg, Int.reduceEq, Int.reduceLT, Int.reduceLE]; with_reducible rfl) ?_
          | with_reducible refine h_go (by with_unfolding_all rfl) (by simp (disch := omega) only [hlt', gx, hx, hr, row_m hr, read_row (row_m hr), hu, row_m hu, read_row (row_m hu), csl, hul, usl, nl_len, nl_snoc, tf, row_m tf, read_row (row_m tf), cf, nf, hf', h0, e1, hg', tg, row_m tg, read_row (row_m tg), cg, e2, e3, g, List.set_set, List.length_set, c52r0, c52r1, c52r2, c52r3, c52r4, c52r5, c52r6, c52r7, c52r8, c52r9, c52r10, c52r11, c52r12, c52r13, c52r14, c52r16, EV0, EV1, EV2, EV3, EV4, EV5, EV6, EV7, EV8, VALS, plug, ite_same, decide_true, decide_false, eq_self, ↓reduceIte, reduceCtorEq, Nat.reduceAdd, Nat.reduceEqDiff, Nat.reduceLT, Nat.reduceLeDiff, Nat.reduceMul, Nat.reduceSub, Nat.reduceDiv, Int.reduceToNat, Int.reduceAdd, Int.reduceSub, Int.reduceMul, Int.reduceNeg, Int.reduceEq, Int.reduceLT, Int.reduceLE]; with_reducible rfl) ?_
          | ((with_reducible refine chk_r ?_); refine r_callF (by simp only [CA, Nat.reduceEqDiff, ↓reduceIte]; rfl) (by exact rfl) (by simp only [CA, Nat.reduceEqDiff, ↓reduceIte]; rfl) rfl ?_)
          | ((with_reducible refine chk_h ?_); refine hr_callF (by simp only [CA, Nat.reduceEqDiff, ↓reduceIte]; rfl) (by exact rfl) (by simp only [CA, Nat.reduceEqDiff, ↓reduceIte]; rfl) rfl ?_)
          | ((with_reducible refine chk_r ?_); refine r_callP (by simp only [CA, Nat.reduceEqDiff, ↓reduceIte]; rfl) (by simp only [CA, Nat.reduceEqDiff, ↓reduceIte]; rfl) (by first | ((refine PC.at q86 rfl ?_; refine .cons (now _ ?_) (.cons (.fn .nil (.cons (.same (by simp only [AV.plain, AV.plains, flB_plain, Bool.and_true])) (.cons (.p (by simp (disch := omega) only [c52r0, c52r1, c52r2, c52r3, c52r4, c52r5, c52r6, c52r7, c52r8, c52r9, c52r10, c52r11, c52r12, c52r13, c52r14, c52r16, EV0, EV1, EV2, EV3, EV4, EV5, EV6, EV7, EV8, VALS, plug, ite_same, decide_true, decide_false, eq_self, ↓reduceIte, reduceCtorEq, Nat.reduceAdd, Nat.reduceEqDiff, Nat.reduceLT, Nat.reduceLeDiff, Nat.reduceMul, Nat.reduceSub, Nat.reduceDiv, Int.reduceToNat, Int.reduceAdd, Int.reduceSub, Int.reduceMul, Int.reduceNeg, Int.reduceEq, Int.reduceLT, Int.reduceLE] <;> rfl) (Nows.same rfl)) .nil))) .nil); intro t b hb; have := ok.m hb; simp (disch := omega) only [hb, c52r0, c52r1, c52r2, c52r3, c52r4, c52r5, c52r6, c52r7, c52r8, c52r9, c52r10, c52r11, c52r12, c52r13, c52r14, c52r16, EV0, EV1, EV2, EV3, EV4, EV5, EV6, EV7, EV8, VALS, plug, ite_same, decide_true, decide_false, eq_self, ↓reduceIte, reduceCtorEq, Nat.reduceAdd, Nat.reduceEqDiff, Nat.reduceLT, Nat.reduceLeDiff, Nat.reduceMul, Nat.reduceSub, Nat.reduceDiv, Int.reduceToNat, Int.reduceAdd, Int.reduceSub, Int.reduceMul, Int.reduceNeg, Int.reduceEq, Int.reduceLT, Int.reduceLE]); all_goals fail)) rfl ?_)
          | ((with_reducible refine chk_h ?_); refine hr_callP (by simp only [CA, Nat.reduceEqDiff, ↓reduceIte]; rfl) (by simp only [CA, Nat.reduceEqDiff, ↓reduceIte]; rfl) (by first | ((refine PC.at q86 rfl ?_; refine .cons (now _ ?_) (.cons (.fn .nil (.cons (.same (by simp only [AV.plain, AV.plains, flB_plain, Bool.and_true])) (.cons (.p (by simp (disch := omega) only [c52r0, c52r1, c52r2, c52r3, c52r4, c52r5, c52r6, c52r7, c52r8, c52r9, c52r10, c52r11, c52r12, c52r13, c52r14, c52r16, EV0, EV1, EV2, EV3, EV4, EV5, EV6, EV7, EV8, VALS, plug, ite_same, decide_true, decide_false, eq_self, ↓reduceIte, reduceCtorEq, Nat.reduceAdd, Nat.reduceEqDiff, Nat.reduceLT, Nat.reduceLeDiff, Nat.reduceMul, Nat.reduceSub, Nat.reduceDiv, Int.reduceToNat, Int.reduceAdd, Int.reduceSub, Int.reduceMul, Int.reduceNeg, Int.reduceEq, Int.reduceLT, Int.reduceLE] <;> rfl) (Nows.same rfl)) .nil))) .nil); intro t b hb; have := ok.m hb; simp (disch := omega) only [hb, c52r0, c52r1, c52r2, c52r3, c52r4, c52r5, c52r6, c52r7, c52r8, c52r9, c52r10, c52r11, c52r12, c52r13, c52r14, c52r16, EV0, EV1, EV2, EV3, EV4, EV5, EV6, EV7, EV8, VALS, plug, ite_same, decide_true, decide_false, eq_self, ↓reduceIte, reduceCtorEq, Nat.reduceAdd, Nat.reduceEqDiff, Nat.reduceLT, Nat.reduceLeDiff, Nat.reduceMul, Nat.reduceSub, Nat.reduceDiv, Int.reduceToNat, Int.reduceAdd, Int.reduceSub, Int.reduceMul, Int.reduceNeg, Int.reduceEq, Int.reduceLT, Int.reduceLE]); all_goals fail)) rfl ?_)
          | ((with_reducible refine chk_h ?_); refine hr_callP1 (by simp only [CA, Nat.reduceEqDiff, ↓reduceIte]; rfl) (by simp only [CA, Nat.reduceEqDiff, ↓reduceIte]; rfl) (by simp (disch := omega) only [CA, Nat.reduceEqDiff, ↓reduceIte, firstTok_nil, firstTok_sl, firstTok_sl0, firstTok_i, firstTok_b, firstTok_ag, firstTok_p, firstTok_s]; rfl) (by first | ((refine PC.at q86 rfl ?_; refine .cons (now _ ?_) (.cons (.fn .nil (.cons (.same (by simp only [AV.plain, AV.plains, flB_plain, Bool.and_true])) (.cons (.p (by simp (disch := omega) only [c52r0, c52r1, c52r2, c52r3, c52r4, c52r5, c52r6, c52r7, c52r8, c52r9, c52r10, c52r11, c52r12, c52r13, c52r14, c52r16, EV0, EV1, EV2, EV3, EV4, EV5, EV6, EV7, EV8, VALS, plug, ite_same, decide_true, decide_false, eq_self, ↓reduceIte, reduceCtorEq, Nat.reduceAdd, Nat.reduceEqDiff, Nat.reduceLT, Nat.reduceLeDiff, Nat.reduceMul, Nat.reduceSub, Nat.reduceDiv, Int.reduceToNat, Int.reduceAdd, Int.reduceSub, Int.reduceMul, Int.reduceNeg, Int.reduceEq, Int.reduceLT, Int.reduceLE] <;> rfl) (Nows.same rfl)) .nil))) .nil); intro t b hb; have := ok.m hb; simp (disch := omega) only [hb, c52r0, c52r1, c52r2, c52r3, c52r4, c52r5, c52r6, c52r7, c52r8, c52r9, c52r10, c52r11, c52r12, c52r13, c52r14, c52r16, EV0, EV1, EV2, EV3, EV4, EV5, EV6, EV7, EV8, VALS, plug, ite_same, decide_true, decide_false, eq_self, ↓reduceIte, reduceCtorEq, Nat.reduceAdd, Nat.reduceEqDiff, Nat.reduceLT, Nat.reduceLeDiff, Nat.reduceMul, Nat.reduceSub, Nat.reduceDiv, Int.reduceToNat, Int.reduceAdd, Int.reduceSub, Int.reduceMul, Int.reduceNeg, Int.reduceEq, Int.reduceLT, Int.reduceLE]); all_goals fail)) rfl ?_)
          | ((with_reducible refine chk_h ?_); refine hr_app (by simp (disch := omega) only [hlt', gx, hx, hr, row_m hr, read_row (row_m hr), hu, row_m hu, read_row (row_m hu), csl, hul, usl, nl_len, nl_snoc, tf, row_m tf, read_row (row_m tf), cf, nf, hf', h0, e1, hg', tg, row_m tg, read_row (row_m tg), cg, e2, e3, g, List.set_set, List.length_set, c52r0, c52r1, c52r2, c52r3, c52r4, c52r5, c52r6, c52r7, c52r8, c52r9, c52r10, c52r11, c52r12, c52r13, c52r14, c52r16, EV0, EV1, EV2, EV3, EV4, EV5, EV6, EV7, EV8, VALS, plug, ite_same, decide_true, decide_false, eq_self, ↓reduceIte, reduceCtorEq, Nat.reduceAdd, Nat.reduceEqDiff, Nat.reduceLT, Nat.reduceLeDiff, Nat.reduceMul, Nat.reduceSub, Nat.reduceDiv, Int.reduceToNat, Int.reduceAdd, Int.reduceSub, Int.reduceMul, Int.reduceNeg, Int.reduceEq, Int.reduceLT, Int.reduceLE]; with_reducible rfl) rfl ?_)
          | (with_reducible refine k_condP (by simp only [GA, Nat.reduceEqDiff, ↓reduceIte]; rfl) (by first | (simp only [BO]; rfl) | rfl) (fun ht => ?_) (fun ht => ?_) <;> try (first | exact False.elim ht | exact absurd rfl ht | exact absurd trivial ht | exact Bool.noConfusion ht))
          | (with_reducible refine k_ret ?_; repeat with_reducible (first | refine ret_thru ?_ | refine ret_blk ?_ | refine fin ?_))
          | (with_reducible refine k_exit ?_; repeat with_reducible (first | refine thru ?_ | refine out_blk ?_ | refine pass (by decide) ?_))
          | (refine post1 ?_; simp only [GA, Nat.reduceEqDiff, ↓reduceIte])
          | (refine post2 ?_; simp only [GA, Nat.reduceEqDiff, ↓reduceIte])
          | (refine post3 ?_; simp only [GA, Nat.reduceEqDiff, ↓reduceIte])
          | (refine postc (by simp only [GA, Nat.reduceEqDiff, ↓reduceIte]; rfl) (by simp (disch := omega) only [hlt', gx, hx, hr, row_m hr, read_row (row_m hr), hu, row_m hu, read_row (row_m hu), csl, hul, usl, nl_len, nl_snoc, tf, row_m tf, read_row (row_m tf), cf, nf, hf', h0, e1, hg', tg, row_m tg, read_row (row_m tg), cg, e2, e3, g, List.set_set, List.length_set, c52r0, c52r1, c52r2, c52r3, c52r4, c52r5, c52r6, c52r7, c52r8, c52r9, c52r10, c52r11, c52r12, c52r13, c52r14, c52r16, EV0, EV1, EV2, EV3, EV4, EV5, EV6, EV7, EV8, VALS, plug, ite_same, decide_true, decide_false, eq_self, ↓reduceIte, reduceCtorEq, Nat.reduceAdd, Nat.reduceEqDiff, Nat.reduceLT, Nat.reduceLeDiff, Nat.reduceMul, Nat.reduceSub, Nat.reduceDiv, Int.reduceToNat, Int.reduceAdd, Int.reduceSub, Int.reduceMul, Int.reduceNeg, Int.reduceEq, Int.reduceLT, Int.reduceLE]; rfl) ?_)
          | refine post0 ?_
        refine ⟨hlt, ⟨r, ts.set (f + 1) (h.nx + 1 + 4 + 4 + 2 + 4 + 2 + 6 + 10 + 8), u, (us.set (od l k) ((lastN ((rowsK l k).getD f []) : Nat) : Int))⟩, ?g1, ?g2, u0, ur, ?g3, ?g4, ?g5, ?g6⟩
        case g1 =>
          simp only [Am.keep, List.map_cons, List.map_nil, GA, Nat.reduceEqDiff, ↓reduceIte, hlen1]
          rfl
        case g2 =>
          rw [hat, List.map_set, e0]
          refine N.put (by omega) hn1 (by omega) (by omega) (fun hm => by have := tlt _ hm; omega) (by rw [hcs]; simp (disch := omega) only [c52r0, c52r1, c52r2, c52r3, c52r4, c52r5, c52r6, c52r7, c52r8, c52r9, c52r10, c52r11, c52r12, c52r13, c52r14, c52r16, EV0, EV1, EV2, EV3, EV4, EV5, EV6, EV7, EV8, VALS, plug, ite_same, decide_true, decide_false, eq_self, ↓reduceIte, reduceCtorEq, Nat.reduceAdd, Nat.reduceEqDiff, Nat.reduceLT, Nat.reduceLeDiff, Nat.reduceMul, Nat.reduceSub, Nat.reduceDiv, Int.reduceToNat, Int.reduceAdd, Int.reduceSub, Int.reduceMul, Int.reduceNeg, Int.reduceEq, Int.reduceLT, Int.reduceLE] <;> rfl) (by simp (disch := omega) only [c52r0, c52r1, c52r2, c52r3, c52r4, c52r5, c52r6, c52r7, c52r8, c52r9, c52r10, c52r11, c52r12, c52r13, c52r14, c52r16, EV0, EV1, EV2, EV3, EV4, EV5, EV6, EV7, EV8, VALS, plug, ite_same, decide_true, decide_false, eq_self, ↓reduceIte, reduceCtorEq, Nat.reduceAdd, Nat.reduceEqDiff, Nat.reduceLT, Nat.reduceLeDiff, Nat.reduceMul, Nat.reduceSub, Nat.reduceDiv, Int.reduceToNat, Int.reduceAdd, Int.reduceSub, Int.reduceMul, Int.reduceNeg, Int.reduceEq, Int.reduceLT, Int.reduceLE] <;> rfl) fun s b hs hne hb => ?_
          have l1 := tlt s hs
          have n1 := (N.nr s hs).2
          have n2 : ¬ s = u := fun e => un (e ▸ hs)
          simp (disch := omega) only [hb, c52r0, c52r1, c52r2, c52r3, c52r4, c52r5, c52r6, c52r7, c52r8, c52r9, c52r10, c52r11, c52r12, c52r13, c52r14, c52r16, EV0, EV1, EV2, EV3, EV4, EV5, EV6, EV7, EV8, VALS, plug, ite_same, decide_true, decide_false, eq_self, ↓reduceIte, reduceCtorEq, Nat.reduceAdd, Nat.reduceEqDiff, Nat.reduceLT, Nat.reduceLeDiff, Nat.reduceMul, Nat.reduceSub, Nat.reduceDiv, Int.reduceToNat, Int.reduceAdd, Int.reduceSub, Int.reduceMul, Int.reduceNeg, Int.reduceEq, Int.reduceLT, Int.reduceLE]
        case g3 =>
          intro hm
          rcases List.mem_or_eq_of_mem_set hm with q | q
          · exact un q
          · simp only [] at q; omega
        case g4 => simp (disch := omega) only [hu, List.set_set, c52r0, c52r1, c52r2, c52r3, c52r4, c52r5, c52r6, c52r7, c52r8, c52r9, c52r10, c52r11, c52r12, c52r13, c52r14, c52r16, EV0, EV1, EV2, EV3, EV4, EV5, EV6, EV7, EV8, VALS, plug, ite_same, decide_true, decide_false, eq_self, ↓reduceIte, reduceCtorEq, Nat.reduceAdd, Nat.reduceEqDiff, Nat.reduceLT, Nat.reduceLeDiff, Nat.reduceMul, Nat.reduceSub, Nat.reduceDiv, Int.reduceToNat, Int.reduceAdd, Int.reduceSub, Int.reduceMul, Int.reduceNeg, Int.reduceEq, Int.reduceLT, Int.reduceLE] <;> rfl
        case g5 => simp only [List.length_set]; exact hul
        case g6 => exact us_step hul hlt hus (by rw [hund]; try rfl)
    · rw [if_neg hf] at q86 hat
      have hfe : f = (rowsK l k).length := by omega
      have csl := rC_len (k := 1) N.len
      rw [Nl] at csl
      have hlen1 : (rowsK l (k + 1)).length = (rowsK l k).length + 1 := by rw [hat]; simp
      have e0 : [[od l k]].map rw1 = [(1, nl [od l k])] := rfl
      have c0 : ∀ cs : List AV, cs.length = (rowsK l k).length → (cs ++ [AV.sl 0 0 0 0])[(rowsK l k).length]? = some (.sl 0 0 0 0) := fun cs h => get_last h
      have lt1 : ((rowsK l k).length : Int) < (((rowsK l k).length + 1 : Nat) : Int) := by omega
      have sx : ∀ x : Nat, ([AV.i .i64 (x : Int)] : List AV) = nl [x] := fun x => rfl
      cases f with
      | zero =>
        have z : (rowsK l k).length = 0 := by omega
        have h0 : ¬ (0 : Int) < ((rowsK l k).length : Int) := by omega
        rw [if_pos rfl] at hund
        generalize hcs : rC 1 ts ((rowsK l k).map rw1) = cs at hr csl
        have c0 := c0 cs csl
        have c2 : (cs ++ [AV.sl 0 0 0 0]).length = (rowsK l k).length + 1 := by rw [List.length_append, csl]; rfl
        repeat' first
          | with_reducible refine k_seq ?_
          | with_reducible refine k_skip ?_
          | with_reducible refine k_blkS ?_
          | with_reducible refine k_blkR ?_
          | with_reducible refine k_blkC ?_
          | with_reducible refine k_blkH ?_
          | with_reducible refine k_blkB ?_
          | with_reducible refine k_blkK ?_
          | with_reducible refine k_blkE ?_
          | with_reducible refine k_reg ?_
          | with_reducible refine k_head (by with_unfolding_all rfl) ?_
          | with_reducible refine k_headS ?_
          | (with_reducible refine SepK.mk ?_ ?_; (refine sepQ_P ?_; simp [sepQ, sepG, AOp.late, AOp.free, AOp.xs, AOp.isAl, tokNe, AV.tok, stS_get, strip, AX.val, c52r0, c52r1, c52r2, c52r3, c52r4, c52r5, c52r6, c52r7, c52r8, c52r9, c52r10, c52r11, c52r12, c52r13, c52r14, c52r16, GA]; try omega))
          | with_reducible refine r_done ?_
          | with_reducible refine hr_done ?_
          | with_reducible refine s_go (by simp (disch := omega) only [hlt', gx, hx, hr, row_m hr, read_row (row_m hr), hu, row_m hu, read_row (row_m hu), csl, hul, usl, nl_len, nl_snoc, h0, c0, c2, lt1, c52r0, c52r1, c52r2, c52r3, c52r4, c52r5, c52r6, c52r7, c52r8, c52r9, c52r10, c52r11, c52r12, c52r13, c52r14, c52r16, EV0, EV1, EV2, EV3, EV4, EV5, EV6, EV7, EV8, VALS, plug, ite_same, decide_true, decide_false, eq_self, ↓reduceIte, reduceCtorEq, Nat.reduceAdd, Nat.reduceEqDiff, Nat.reduceLT, Nat.reduceLeDiff, Nat.reduceMul, Nat.reduceSub, Nat.reduceDiv, Int.reduceToNat, Int.reduceAdd, Int.reduceSub, Int.reduceMul, Int.reduceNeg, Int.reduceEq, Int.reduceLT, Int.reduceLE]; with_reducible rfl) ?_
          | with_reducible refine h_go (by with_unfolding_all rfl) (by simp (disch := omega) only [hlt', gx, hx, hr, row_m hr, read_row (row_m hr), hu, row_m hu, read_row (row_m hu), csl, hul, usl, nl_len, nl_snoc, h0, c0, c2, lt1, c52r0, c52r1, c52r2, c52r3, c52r4, c52r5, c52r6, c52r7, c52r8, c52r9, c52r10, c52r11, c52r12, c52r13, c52r14, c52r16, EV0, EV1, EV2, EV3, EV4, EV5, EV6, EV7, EV8, VALS, plug, ite_same, decide_true, decide_false, eq_self, ↓reduceIte, reduceCtorEq, Nat.reduceAdd, Nat.reduceEqDiff, Nat.reduceLT, Nat.reduceLeDiff, Nat.reduceMul, Nat.reduceSub, Nat.reduceDiv, Int.reduceToNat, Int.reduceAdd, Int.reduceSub, Int.reduceMul, Int.reduceNeg, Int.reduceEq, Int.reduceLT, Int.reduceLE]; with_reducible rfl) ?_
          | ((with_reducible refine chk_r ?_); refine r_callF (by simp only [CA, Nat.reduceEqDiff, ↓reduceIte]; rfl) (by exact rfl) (by simp only [CA, Nat.reduceEqDiff, ↓reduceIte]; rfl) rfl ?_)
          | ((with_reducible refine chk_h ?_); refine hr_callF (by simp only [CA, Nat.reduceEqDiff, ↓reduceIte]; rfl) (by exact rfl) (by simp only [CA, Nat.reduceEqDiff, ↓reduceIte]; rfl) rfl ?_)
          | ((with_reducible refine chk_r ?_); refine r_callP (by simp only [CA, Nat.reduceEqDiff, ↓reduceIte]; rfl) (by simp only [CA, Nat.reduceEqDiff, ↓reduceIte]; rfl) (by first | ((refine PC.at q86 rfl ?_; refine .cons (now _ ?_) (.cons (.fn .nil (.cons (.same (by simp only [AV.plain, AV.plains, flB_plain, Bool.and_true])) (.cons (.p (by simp (disch := omega) only [c52r0, c52r1, c52r2, c52r3, c52r4, c52r5, c52r6, c52r7, c52r8, c52r9, c52r10, c52r11, c52r12, c52r13, c52r14, c52r16, EV0, EV1, EV2, EV3, EV4, EV5, EV6, EV7, EV8, VALS, plug, ite_same, decide_true, decide_false, eq_self, ↓reduceIte, reduceCtorEq, Nat.reduceAdd, Nat.reduceEqDiff, Nat.reduceLT, Nat.reduceLeDiff, Nat.reduceMul, Nat.reduceSub, Nat.reduceDiv, Int.reduceToNat, Int.reduceAdd, Int.reduceSub, Int.reduceMul, Int.reduceNeg, Int.reduceEq, Int.reduceLT, Int.reduceLE] <;> rfl) (Nows.same rfl)) .nil))) .nil); intro t b hb; have := ok.m hb; simp (disch := omega) only [hb, c52r0, c52r1, c52r2, c52r3, c52r4, c52r5, c52r6, c52r7, c52r8, c52r9, c52r10, c52r11, c52r12, c52r13, c52r14, c52r16, EV0, EV1, EV2, EV3, EV4, EV5, EV6, EV7, EV8, VALS, plug, ite_same, decide_true, decide_false, eq_self, ↓reduceIte, reduceCtorEq, Nat.reduceAdd, Nat.reduceEqDiff, Nat.reduceLT, Nat.reduceLeDiff, Nat.reduceMul, Nat.reduceSub, Nat.reduceDiv, Int.reduceToNat, Int.reduceAdd, Int.reduceSub, Int.reduceMul, Int.reduceNeg, Int.reduceEq, Int.reduceLT, Int.reduceLE]); all_goals fail)) rfl ?_)
          | ((with_reducible refine chk_h ?_); refine hr_callP (by simp only [CA, Nat.reduceEqDiff, ↓reduceIte]; rfl) (by simp only [CA, Nat.reduceEqDiff, ↓reduceIte]; rfl) (by first | ((refine PC.at q86 rfl ?_; refine .cons (now _ ?_) (.cons (.fn .nil (.cons (.same (by simp only [AV.plain, AV.plains, flB_plain, Bool.and_true])) (.cons (.p (by simp (disch := omega) only [c52r0, c52r1, c52r2, c52r3, c52r4, c52r5, c52r6, c52r7, c52r8, c52r9, c52r10, c52r11, c52r12, c52r13, c52r14, c52r16, EV0, EV1, EV2, EV3, EV4, EV5, EV6, EV7, EV8, VALS, plug, ite_same, decide_true, decide_false, eq_self, ↓reduceIte, reduceCtorEq, Nat.reduceAdd, Nat.reduceEqDiff, Nat.reduceLT, Nat.reduceLeDiff, Nat.reduceMul, Nat.reduceSub, Nat.reduceDiv, Int.reduceToNat, Int.reduceAdd, Int.reduceSub, Int.reduceMul, Int.reduceNeg, Int.reduceEq, Int.reduceLT, Int.reduceLE] <;> rfl) (Nows.same rfl)) .nil))) .nil); intro t b hb; have := ok.m hb; simp (disch := omega) only [hb, c52r0, c52r1, c52r2, c52r3, c52r4, c52r5, c52r6, c52r7, c52r8, c52r9, c52r10, c52r11, c52r12, c52r13, c52r14, c52r16, EV0, EV1, EV2, EV3, EV4, EV5, EV6, EV7, EV8, VALS, plug, ite_same, decide_true, decide_false, eq_self, ↓reduceIte, reduceCtorEq, Nat.reduceAdd, Nat.reduceEqDiff, Nat.reduceLT, Nat.reduceLeDiff, Nat.reduceMul, Nat.reduceSub, Nat.reduceDiv, Int.reduceToNat, Int.reduceAdd, Int.reduceSub, Int.reduceMul, Int.reduceNeg, Int.reduceEq, Int.reduceLT, Int.reduceLE]); all_goals fail)) rfl ?_)
          | ((with_reducible refine chk_h ?_); refine hr_callP1 (by simp only [CA, Nat.reduceEqDiff, ↓reduceIte]; rfl) (by simp only [CA, Nat.reduceEqDiff, ↓reduceIte]; rfl) (by simp (disch := omega) only [CA, Nat.reduceEqDiff, ↓reduceIte, firstTok_nil, firstTok_sl, firstTok_sl0, firstTok_i, firstTok_b, firstTok_ag, firstTok_p, firstTok_s]; rfl) (by first | ((refine PC.at q86 rfl ?_; refine .cons (now _ ?_) (.cons (.fn .nil (.cons (.same (by simp only [AV.plain, AV.plains, flB_plain, Bool.and_true])) (.cons (.p (by simp (disch := omega) only [c52r0, c52r1, c52r2, c52r3, c52r4, c52r5, c52r6, c52r7, c52r8, c52r9, c52r10, c52r11, c52r12, c52r13, c52r14, c52r16, EV0, EV1, EV2, EV3, EV4, EV5, EV6, EV7, EV8, VALS, plug, ite_same, decide_true, decide_false, eq_self, ↓reduceIte, reduceCtorEq, Nat.reduceAdd, Nat.reduceEqDiff, Nat.reduceLT, Nat.reduceLeDiff, Nat.reduceMul, Nat.reduceSub, Nat.reduceDiv, Int.reduceToNat, Int.reduceAdd, Int.reduceSub, Int.reduceMul, Int.reduceNeg, Int.reduceEq, Int.reduceLT, Int.reduceLE] <;> rfl) (Nows.same rfl)) .nil))) .nil); intro t b hb; have := ok.m hb; simp (disch := omega) only [hb, c52r0, c52r1, c52r2, c52r3, c52r4, c52r5, c52r6, c52r7, c52r8, c52r9, c52r10, c52r11, c52r12, c52r13, c52r14, c52r16, EV0, EV1, EV2, EV3, EV4, EV5, EV6, EV7, EV8, VALS, plug, ite_same, decide_true, decide_false, eq_self, ↓reduceIte, reduceCtorEq, Nat.reduceAdd, Nat.reduceEqDiff, Nat.reduceLT, Nat.reduceLeDiff, Nat.reduceMul, Nat.reduceSub, Nat.reduceDiv, Int.reduceToNat, Int.reduceAdd, Int.reduceSub, Int.reduceMul, Int.reduceNeg, Int.reduceEq, Int.reduceLT, Int.reduceLE]); all_goals fail)) rfl ?_)
          | ((with_reducible refine chk_h ?_); refine hr_app (by simp (disch := omega) only [hlt', gx, hx, hr, row_m hr, read_row (row_m hr), hu, row_m hu, read_row (row_m hu), csl, hul, usl, nl_len, nl_snoc, h0, c0, c2, lt1, c52r0, c52r1, c52r2, c52r3, c52r4, c52r5, c52r6, c52r7, c52r8, c52r9, c52r10, c52r11, c52r12, c52r13, c52r14, c52r16, EV0, EV1, EV2, EV3, EV4, EV5, EV6, EV7, EV8, VALS, plug, ite_same, decide_true, decide_false, eq_self, ↓reduceIte, reduceCtorEq, Nat.reduceAdd, Nat.reduceEqDiff, Nat.reduceLT, Nat.reduceLeDiff, Nat.reduceMul, Nat.reduceSub, Nat.reduceDiv, Int.reduceToNat, Int.reduceAdd, Int.reduceSub, Int.reduceMul, Int.reduceNeg, Int.reduceEq, Int.reduceLT, Int.reduceLE]; with_reducible rfl) rfl ?_)
          | (with_reducible refine k_condP (by simp only [GA, Nat.reduceEqDiff, ↓reduceIte]; rfl) (by first | (simp only [BO]; rfl) | rfl) (fun ht => ?_) (fun ht => ?_) <;> try (first | exact False.elim ht | exact absurd rfl ht | exact absurd trivial ht | exact Bool.noConfusion ht))
          | (with_reducible refine k_ret ?_; repeat with_reducible (first | refine ret_thru ?_ | refine ret_blk ?_ | refine fin ?_))
          | (with_reducible refine k_exit ?_; repeat with_reducible (first | refine thru ?_ | refine out_blk ?_ | refine pass (by decide) ?_))
          | (refine post1 ?_; simp only [GA, Nat.reduceEqDiff, ↓reduceIte])
          | (refine post2 ?_; simp only [GA, Nat.reduceEqDiff, ↓reduceIte])
          | (refine post3 ?_; simp only [GA, Nat.reduceEqDiff, ↓reduceIte])
          | (refine postc (by simp only [GA, Nat.reduceEqDiff, ↓reduceIte]; rfl) (by simp (disch := omega) only [hlt', gx, hx, hr, row_m hr, read_row (row_m hr), hu, row_m hu, read_row (row_m hu), csl, hul, usl, nl_len, nl_snoc, h0, c0, c2, lt1, c52r0, c52r1, c52r2, c52r3, c52r4, c52r5, c52r6, c52r7, c52r8, c52r9, c52r10, c52r11, c52r12, c52r13, c52r14, c52r16, EV0, EV1, EV2, EV3, EV4, EV5, EV6, EV7, EV8, VALS, plug, ite_same, decide_true, decide_false, eq_self, ↓reduceIte, reduceCtorEq, Nat.reduceAdd, Nat.reduceEqDiff, Nat.reduceLT, Nat.reduceLeDiff, Nat.reduceMul, Nat.reduceSub, Nat.reduceDiv, Int.reduceToNat, Int.reduceAdd, Int.reduceSub, Int.reduceMul, Int.reduceNeg, Int.reduceEq, Int.reduceLT, Int.reduceLE]; rfl) ?_)
          | refine post0 ?_
        refine ⟨hlt, ⟨(h.nx + 1 + 4 + 4 + 2 + 3 + 2), ts ++ [(h.nx + 1 + 4 + 4 + 2 + 3 + 4 + 4 + 2 + 8)], u, (us.set (od l k) (-1))⟩, ?g1, ?g2, u0, ?g7, ?g3, ?g4, ?g5, ?g6⟩
        case g1 =>
          simp only [Am.keep, List.map_cons, List.map_nil, GA, Nat.reduceEqDiff, ↓reduceIte, hlen1]
          rfl
        case g2 =>
          rw [hat, List.map_append, e0]
          refine N.snoc (n := 1) (cs := nl [od l k]) rfl (by omega) (by omega) (by omega) (fun hm => by have := tlt _ hm; omega) (fun hm => by have := tlt _ hm; omega) (by rw [hcs]; simp (disch := omega) only [set_last csl, c52r0, c52r1, c52r2, c52r3, c52r4, c52r5, c52r6, c52r7, c52r8, c52r9, c52r10, c52r11, c52r12, c52r13, c52r14, c52r16, EV0, EV1, EV2, EV3, EV4, EV5, EV6, EV7, EV8, VALS, plug, ite_same, decide_true, decide_false, eq_self, ↓reduceIte, reduceCtorEq, Nat.reduceAdd, Nat.reduceEqDiff, Nat.reduceLT, Nat.reduceLeDiff, Nat.reduceMul, Nat.reduceSub, Nat.reduceDiv, Int.reduceToNat, Int.reduceAdd, Int.reduceSub, Int.reduceMul, Int.reduceNeg, Int.reduceEq, Int.reduceLT, Int.reduceLE] <;> rfl) (by simp (disch := omega) only [c52r0, c52r1, c52r2, c52r3, c52r4, c52r5, c52r6, c52r7, c52r8, c52r9, c52r10, c52r11, c52r12, c52r13, c52r14, c52r16, EV0, EV1, EV2, EV3, EV4, EV5, EV6, EV7, EV8, VALS, plug, ite_same, decide_true, decide_false, eq_self, ↓reduceIte, reduceCtorEq, Nat.reduceAdd, Nat.reduceEqDiff, Nat.reduceLT, Nat.reduceLeDiff, Nat.reduceMul, Nat.reduceSub, Nat.reduceDiv, Int.reduceToNat, Int.reduceAdd, Int.reduceSub, Int.reduceMul, Int.reduceNeg, Int.reduceEq, Int.reduceLT, Int.reduceLE] <;> rfl) fun s b hs hb => ?_
          have l1 := tlt s hs
          have n1 := (N.nr s hs).2
          have n2 : ¬ s = u := fun e => un (e ▸ hs)
          simp (disch := omega) only [hb, c52r0, c52r1, c52r2, c52r3, c52r4, c52r5, c52r6, c52r7, c52r8, c52r9, c52r10, c52r11, c52r12, c52r13, c52r14, c52r16, EV0, EV1, EV2, EV3, EV4, EV5, EV6, EV7, EV8, VALS, plug, ite_same, decide_true, decide_false, eq_self, ↓reduceIte, reduceCtorEq, Nat.reduceAdd, Nat.reduceEqDiff, Nat.reduceLT, Nat.reduceLeDiff, Nat.reduceMul, Nat.reduceSub, Nat.reduceDiv, Int.reduceToNat, Int.reduceAdd, Int.reduceSub, Int.reduceMul, Int.reduceNeg, Int.reduceEq, Int.reduceLT, Int.reduceLE]
        case g7 => simp only []; omega
        case g3 =>
          intro hm
          rcases List.mem_append.1 hm with q | q
          · exact un q
          · rw [List.mem_singleton] at q; simp only [] at q; omega
        case g4 => simp (disch := omega) only [hu, List.set_set, c52r0, c52r1, c52r2, c52r3, c52r4, c52r5, c52r6, c52r7, c52r8, c52r9, c52r10, c52r11, c52r12, c52r13, c52r14, c52r16, EV0, EV1, EV2, EV3, EV4, EV5, EV6, EV7, EV8, VALS, plug, ite_same, decide_true, decide_false, eq_self, ↓reduceIte, reduceCtorEq, Nat.reduceAdd, Nat.reduceEqDiff, Nat.reduceLT, Nat.reduceLeDiff, Nat.reduceMul, Nat.reduceSub, Nat.reduceDiv, Int.reduceToNat, Int.reduceAdd, Int.reduceSub, Int.reduceMul, Int.reduceNeg, Int.reduceEq, Int.reduceLT, Int.reduceLE] <;> rfl
        case g5 => simp only [List.length_set]; exact hul
        case g6 => exact us_step hul hlt hus (by rw [hund]; try rfl)
      | succ f =>
        have h0 : (0 : Int) < ((rowsK l k).length : Int) := by omega
        rw [if_neg (by omega), Nat.add_sub_cancel] at hund
        have e1 : ((rowsK l k).length : Int) - 1 = (f : Int) := by omega
        have hg : f < (rowsK l k).length := by omega
        have hg' : (f : Int) < (((rowsK l k).length + 1 : Nat) : Int) := by omega
        have cg := N.cell (i := f) (by omega)
        rw [rD_map hg] at cg
        have tg := N.row (i := f) (by omega)
        rw [rD_map hg] at tg
        have mg := N.mem (i := f) (by omega)
        have ltg := tlt _ mg
        have neg := N.ne (i := f) (by omega)
        have negu : ¬ tD ts f = u := fun e => un (e ▸ mg)
        have rlg := rin f hg
        have hne := Rk.ne _ (mem_row hg)
        have hp : 0 < ((rowsK l k).getD f []).length := List.length_pos_iff.2 hne
        have e2 : (((rowsK l k).getD f []).length : Int) - 1 = ((((rowsK l k).getD f []).length - 1 : Nat) : Int) := by omega
        have e3 : ((rowsK l k).getD f []).length - 1 < ((rowsK l k).getD f []).length := by omega
        have g := last_get hne
        simp only at cg tg
        generalize hcs : rC 1 ts ((rowsK l k).map rw1) = cs at hr csl cg
        have c0 := c0 cs csl
        have c2 : (cs ++ [AV.sl 0 0 0 0]).length = (rowsK l k).length + 1 := by rw [List.length_append, csl]; rfl
        have c1 := get_low (z := .sl 0 0 0 0) cg
        repeat' first
          | with_reducible refine k_seq ?_
          | with_reducible refine k_skip ?_
          | with_reducible refine k_blkS ?_
          | with_reducible refine k_blkR ?_
          | with_reducible refine k_blkC ?_
          | with_reducible refine k_blkH ?_
          | with_reducible refine k_blkB ?_
          | with_reducible refine k_blkK ?_
          | with_reducible refine k_blkE ?_
          | with_reducible refine k_reg ?_
          | with_reducible refine k_head (by with_unfolding_all rfl) ?_
          | with_reducible refine k_headS ?_
          | (with_reducible refine SepK.mk ?_ ?_; (refine sepQ_P ?_; simp [sepQ, sepG, AOp.late, AOp.free, AOp.xs, AOp.isAl, tokNe, AV.tok, stS_get, strip, AX.val, c52r0, c52r1, c52r2, c52r3, c52r4, c52r5, c52r6, c52r7, c52r8, c52r9, c52r10, c52r11, c52r12, c52r13, c52r14, c52r16, GA]; try omega))
          | with_reducible refine r_done ?_
          | with_reducible refine hr_done ?_
          | with_reducible refine s_go (by simp (disch := omega) only [hlt', gx, hx, hr, row_m hr, read_row (row_m hr), hu, row_m hu, read_row (row_m hu), csl, hul, usl, nl_len, nl_snoc, h0, c0, c2, lt1, e1, hg', tg, row_m tg, read_row (row_m tg), c1, e2, e3, g, List.set_set, List.length_set, c52r0, c52r1, c52r2, c52r3, c52r4, c52r5, c52r6, c52r7, c52r8, c52r9, c52r10, c52r11, c52r12, c52r13, c52r14, c52r16, EV0, EV1, EV2, EV3, EV4, EV5, EV6, EV7, EV8, VALS, plug, ite_same, decide_true, decide_false, eq_self, ↓reduceIte, reduceCtorEq, Nat.reduceAdd, Nat.reduceEqDiff, Nat.reduceLT, Nat.reduceLeDiff, Nat.reduceMul, Nat.reduceSub, Nat.reduceDiv, Int.reduceToNat, Int.reduceAdd, Int.reduceSub, Int.reduceMul, Int.reduceNeg, Int.reduceEq, Int.reduceLT, Int.reduceLE]; with_reducible rfl) ?_
          | with_reducible refine h_go (by with_unfolding_all rfl) (by simp (disch := omega) only [hlt', gx, hx, hr, row_m hr, read_row (row_m hr), hu, row_m hu, read_row (row_m hu), csl, hul, usl, nl_len, nl_snoc, h0, c0, c2, lt1, e1, hg', tg, row_m tg, read_row (row_m tg), c1, e2, e3, g, List.set_set, List.length_set, c52r0, c52r1, c52r2, c52r3, c52r4, c52r5, c52r6, c52r7, c52r8, c52r9, c52r10, c52r11, c52r12, c52r13, c52r14, c52r16, EV0, EV1, EV2, EV3, EV4, EV5, EV6, EV7, EV8, VALS, plug, ite_same, decide_true, decide_false, eq_self, ↓reduceIte, reduceCtorEq, Nat.reduceAdd, Nat.reduceEqDiff, Nat.reduceLT, Nat.reduceLeDiff, Nat.reduceMul, Nat.reduceSub, Nat.reduceDiv, Int.reduceToNat, Int.reduceAdd, Int.reduceSub, Int.reduceMul, Int.reduceNeg, Int.reduceEq, Int.reduceLT, Int.reduceLE]; with_reducible rfl) ?_
          | ((with_reducible refine chk_r ?_); refine r_callF (by simp only [CA, Nat.reduceEqDiff, ↓reduceIte]; rfl) (by exact rfl) (by simp only [CA, Nat.reduceEqDiff, ↓reduceIte]; rfl) rfl ?_)
          | ((with_reducible refine chk_h ?_); refine hr_callF (by simp only [CA, Nat.reduceEqDiff, ↓reduceIte]; rfl) (by exact rfl) (by simp only [CA, Nat.reduceEqDiff, ↓reduceIte]; rfl) rfl ?_)
          | ((with_reducible refine chk_r ?_); refine r_callP (by simp only [CA, Nat.reduceEqDiff, ↓reduceIte]; rfl) (by simp only [CA, Nat.reduceEqDiff, ↓reduceIte]; rfl) (by first | ((refine PC.at q86 rfl ?_; refine .cons (now _ ?_) (.cons (.fn .nil (.cons (.same (by simp only [AV.plain, AV.plains, flB_plain, Bool.and_true])) (.cons (.p (by simp (disch := omega) only [c52r0, c52r1, c52r2, c52r3, c52r4, c52r5, c52r6, c52r7, c52r8, c52r9, c52r10, c52r11, c52r12, c52r13, c52r14, c52r16, EV0, EV1, EV2, EV3, EV4, EV5, EV6, EV7, EV8, VALS, plug, ite_same, decide_true, decide_false, eq_self, ↓reduceIte, reduceCtorEq, Nat.reduceAdd, Nat.reduceEqDiff, Nat.reduceLT, Nat.reduceLeDiff, Nat.reduceMul, Nat.reduceSub, Nat.reduceDiv, Int.reduceToNat, Int.reduceAdd, Int.reduceSub, Int.reduceMul, Int.reduceNeg, Int.reduceEq, Int.reduceLT, Int.reduceLE] <;> rfl) (Nows.same rfl)) .nil))) .nil); intro t b hb; have := ok.m hb; simp (disch := omega) only [hb, c52r0, c52r1, c52r2, c52r3, c52r4, c52r5, c52r6, c52r7, c52r8, c52r9, c52r10, c52r11, c52r12, c52r13, c52r14, c52r16, EV0, EV1, EV2, EV3, EV4, EV5, EV6, EV7, EV8, VALS, plug, ite_same, decide_true, decide_false, eq_self, ↓reduceIte, reduceCtorEq, Nat.reduceAdd, Nat.reduceEqDiff, Nat.reduceLT, Nat.reduceLeDiff, Nat.reduceMul, Nat.reduceSub, Nat.reduceDiv, Int.reduceToNat, Int.reduceAdd, Int.reduceSub, Int.reduceMul, Int.reduceNeg, Int.reduceEq, Int.reduceLT, Int.reduceLE]); all_goals fail)) rfl ?_)
          | ((with_reducible refine chk_h ?_); refine hr_callP (by simp only [CA, Nat.reduceEqDiff, ↓reduceIte]; rfl) (by simp only [CA, Nat.reduceEqDiff, ↓reduceIte]; rfl) (by first | ((refine PC.at q86 rfl ?_; refine .cons (now _ ?_) (.cons (.fn .nil (.cons (.same (by simp only [AV.plain, AV.plains, flB_plain, Bool.and_true])) (.cons (.p (by simp (disch := omega) only [c52r0, c52r1, c52r2, c52r3, c52r4, c52r5, c52r6, c52r7, c52r8, c52r9, c52r10, c52r11, c52r12, c52r13, c52r14, c52r16, EV0, EV1, EV2, EV3, EV4, EV5, EV6, EV7, EV8, VALS, plug, ite_same, decide_true, decide_false, eq_self, ↓reduceIte, reduceCtorEq, Nat.reduceAdd, Nat.reduceEqDiff, Nat.reduceLT, Nat.reduceLeDiff, Nat.reduceMul, Nat.reduceSub, Nat.reduceDiv, Int.reduceToNat, Int.reduceAdd, Int.reduceSub, Int.reduceMul, Int.reduceNeg, Int.reduceEq, Int.reduceLT, Int.reduceLE] <;> rfl) (Nows.same rfl)) .nil))) .nil); intro t b hb; have := ok.m hb; simp (disch := omega) only [hb, c52r0, c52r1, c52r2, c52r3, c52r4, c52r5, c52r6, c52r7, c52r8, c52r9, c52r10, c52r11, c52r12, c52r13, c52r14, c52r16, EV0, EV1, EV2, EV3, EV4, EV5, EV6, EV7, EV8, VALS, plug, ite_same, decide_true, decide_false, eq_self, ↓reduceIte, reduceCtorEq, Nat.reduceAdd, Nat.reduceEqDiff, Nat.reduceLT, Nat.reduceLeDiff, Nat.reduceMul, Nat.reduceSub, Nat.reduceDiv, Int.reduceToNat, Int.reduceAdd, Int.reduceSub, Int.reduceMul, Int.reduceNeg, Int.reduceEq, Int.reduceLT, Int.reduceLE]); all_goals fail)) rfl ?_)
          | ((with_reducible refine chk_h ?_); refine hr_callP1 (by simp only [CA, Nat.reduceEqDiff, ↓reduceIte]; rfl) (by simp only [CA, Nat.reduceEqDiff, ↓reduceIte]; rfl) (by simp (disch := omega) only [CA, Nat.reduceEqDiff, ↓reduceIte, firstTok_nil, firstTok_sl, firstTok_sl0, firstTok_i, firstTok_b, firstTok_ag, firstTok_p, firstTok_s]; rfl) (by first | ((refine PC.at q86 rfl ?_; refine .cons (now _ ?_) (.cons (.fn .nil (.cons (.same (by simp only [AV.plain, AV.plains, flB_plain, Bool.and_true])) (.cons (.p (by simp (disch := omega) only [c52r0, c52r1, c52r2, c52r3, c52r4, c52r5, c52r6, c52r7, c52r8, c52r9, c52r10, c52r11, c52r12, c52r13, c52r14, c52r16, EV0, EV1, EV2, EV3, EV4, EV5, EV6, EV7, EV8, VALS, plug, ite_same, decide_true, decide_false, eq_self, ↓reduceIte, reduceCtorEq, Nat.reduceAdd, Nat.reduceEqDiff, Nat.reduceLT, Nat.reduceLeDiff, Nat.reduceMul, Nat.reduceSub, Nat.reduceDiv, Int.reduceToNat, Int.reduceAdd, Int.reduceSub, Int.reduceMul, Int.reduceNeg, Int.reduceEq, Int.reduceLT, Int.reduceLE] <;> rfl) (Nows.same rfl)) .nil))) .nil); intro t b hb; have := ok.m hb; simp (disch := omega) only [hb, c52r0, c52r1, c52r2, c52r3, c52r4, c52r5, c52r6, c52r7, c52r8, c52r9, c52r10, c52r11, c52r12, c52r13, c52r14, c52r16, EV0, EV1, EV2, EV3, EV4, EV5, EV6, EV7, EV8, VALS, plug, ite_same, decide_true, decide_false, eq_self, ↓reduceIte, reduceCtorEq, Nat.reduceAdd, Nat.reduceEqDiff, Nat.reduceLT, Nat.reduceLeDiff, Nat.reduceMul, Nat.reduceSub, Nat.reduceDiv, Int.reduceToNat, Int.reduceAdd, Int.reduceSub, Int.reduceMul, Int.reduceNeg, Int.reduceEq, Int.reduceLT, Int.reduceLE]); all_goals fail)) rfl ?_)
          | ((with_reducible refine chk_h ?_); refine hr_app (by simp (disch := omega) only [hlt', gx, hx, hr, row_m hr, read_row (row_m hr), hu, row_m hu, read_row (row_m hu), csl, hul, usl, nl_len, nl_snoc, h0, c0, c2, lt1, e1, hg', tg, row_m tg, read_row (row_m tg), c1, e2, e3, g, List.set_set, List.length_set, c52r0, c52r1, c52r2, c52r3, c52r4, c52r5, c52r6, c52r7, c52r8, c52r9, c52r10, c52r11, c52r12, c52r13, c52r14, c52r16, EV0, EV1, EV2, EV3, EV4, EV5, EV6, EV7, EV8, VALS, plug, ite_same, decide_true, decide_false, eq_self, ↓reduceIte, reduceCtorEq, Nat.reduceAdd, Nat.reduceEqDiff, Nat.reduceLT, Nat.reduceLeDiff, Nat.reduceMul, Nat.reduceSub, Nat.reduceDiv, Int.reduceToNat, Int.reduceAdd, Int.reduceSub, Int.reduceMul, Int.reduceNeg, Int.reduceEq, Int.reduceLT, Int.reduceLE]; with_reducible rfl) rfl ?_)
          | (with_reducible refine k_condP (by simp only [GA, Nat.reduceEqDiff, ↓reduceIte]; rfl) (by first | (simp only [BO]; rfl) | rfl) (fun ht => ?_) (fun ht => ?_) <;> try (first | exact False.elim ht | exact absurd rfl ht | exact absurd trivial ht | exact Bool.noConfusion ht))
          | (with_reducible refine k_ret ?_; repeat with_reducible (first | refine ret_thru ?_ | refine ret_blk ?_ | refine fin ?_))
          | (with_reducible refine k_exit ?_; repeat with_reducible (first | refine thru ?_ | refine out_blk ?_ | refine pass (by decide) ?_))
          | (refine post1 ?_; simp only [GA, Nat.reduceEqDiff, ↓reduceIte])
          | (refine post2 ?_; simp only [GA, Nat.reduceEqDiff, ↓reduceIte])
          | (refine post3 ?_; simp only [GA, Nat.reduceEqDiff, ↓reduceIte])
          | (refine postc (by simp only [GA, Nat.reduceEqDiff, ↓reduceIte]; rfl) (by simp (disch := omega) only [hlt', gx, hx, hr, row_m hr, read_row (row_m hr), hu, row_m hu, read_row (row_m hu), csl, hul, usl, nl_len, nl_snoc, h0, c0, c2, lt1, e1, hg', tg, row_m tg, read_row (row_m tg), c1, e2, e3, g, List.set_set, List.length_set, c52r0, c52r1, c52r2, c52r3, c52r4, c52r5, c52r6, c52r7, c52r8, c52r9, c52r10, c52r11, c52r12, c52r13, c52r14, c52r16, EV0, EV1, EV2, EV3, EV4, EV5, EV6, EV7, EV8, VALS, plug, ite_same, decide_true, decide_false, eq_self, ↓reduceIte, reduceCtorEq, Nat.reduceAdd, Nat.reduceEqDiff, Nat.reduceLT, Nat.reduceLeDiff, Nat.reduceMul, Nat.reduceSub, Nat.reduceDiv, Int.reduceToNat, Int.reduceAdd, Int.reduceSub, Int.reduceMul, Int.reduceNeg, Int.reduceEq, Int.reduceLT, Int.reduceLE]; rfl) ?_)
          | refine post0 ?_
        refine ⟨hlt, ⟨(h.nx + 1 + 4 + 4 + 2 + 3 + 2), ts ++ [(h.nx + 1 + 4 + 4 + 2 + 3 + 4 + 4 + 2 + 6 + 10 + 8)], u, (us.set (od l k) ((lastN ((rowsK l k).getD f []) : Nat) : Int))⟩, ?g1, ?g2, u0, ?g7, ?g3, ?g4, ?g5, ?g6⟩
        case g1 =>
          simp only [Am.keep, List.map_cons, List.map_nil, GA, Nat.reduceEqDiff, ↓reduceIte, hlen1]
          rfl
        case g2 =>
          rw [hat, List.map_append, e0]
          refine N.snoc (n := 1) (cs := nl [od l k]) rfl (by omega) (by omega) (by omega) (fun hm => by have := tlt _ hm; omega) (fun hm => by have := tlt _ hm; omega) (by rw [hcs]; simp (disch := omega) only [set_last csl, c52r0, c52r1, c52r2, c52r3, c52r4, c52r5, c52r6, c52r7, c52r8, c52r9, c52r10, c52r11, c52r12, c52r13, c52r14, c52r16, EV0, EV1, EV2, EV3, EV4, EV5, EV6, EV7, EV8, VALS, plug, ite_same, decide_true, decide_false, eq_self, ↓reduceIte, reduceCtorEq, Nat.reduceAdd, Nat.reduceEqDiff, Nat.reduceLT, Nat.reduceLeDiff, Nat.reduceMul, Nat.reduceSub, Nat.reduceDiv, Int.reduceToNat, Int.reduceAdd, Int.reduceSub, Int.reduceMul, Int.reduceNeg, Int.reduceEq, Int.reduceLT, Int.reduceLE] <;> rfl) (by simp (disch := omega) only [c52r0, c52r1, c52r2, c52r3, c52r4, c52r5, c52r6, c52r7, c52r8, c52r9, c52r10, c52r11, c52r12, c52r13, c52r14, c52r16, EV0, EV1, EV2, EV3, EV4, EV5, EV6, EV7, EV8, VALS, plug, ite_same, decide_true, decide_false, eq_self, ↓reduceIte, reduceCtorEq, Nat.reduceAdd, Nat.reduceEqDiff, Nat.reduceLT, Nat.reduceLeDiff, Nat.reduceMul, Nat.reduceSub, Nat.reduceDiv, Int.reduceToNat, Int.reduceAdd, Int.reduceSub, Int.reduceMul, Int.reduceNeg, Int.reduceEq, Int.reduceLT, Int.reduceLE] <;> rfl) fun s b hs hb => ?_
          have l1 := tlt s hs
          have n1 := (N.nr s hs).2
          have n2 : ¬ s = u := fun e => un (e ▸ hs)
          simp (disch := omega) only [hb, c52r0, c52r1, c52r2, c52r3, c52r4, c52r5, c52r6, c52r7, c52r8, c52r9, c52r10, c52r11, c52r12, c52r13, c52r14, c52r16, EV0, EV1, EV2, EV3, EV4, EV5, EV6, EV7, EV8, VALS, plug, ite_same, decide_true, decide_false, eq_self, ↓reduceIte, reduceCtorEq, Nat.reduceAdd, Nat.reduceEqDiff, Nat.reduceLT, Nat.reduceLeDiff, Nat.reduceMul, Nat.reduceSub, Nat.reduceDiv, Int.reduceToNat, Int.reduceAdd, Int.reduceSub, Int.reduceMul, Int.reduceNeg, Int.reduceEq, Int.reduceLT, Int.reduceLE]
        case g7 => simp only []; omega
        case g3 =>
          intro hm
          rcases List.mem_append.1 hm with q | q
          · exact un q
          · rw [List.mem_singleton] at q; simp only [] at q; omega
        case g4 => simp (disch := omega) only [hu, List.set_set, c52r0, c52r1, c52r2, c52r3, c52r4, c52r5, c52r6, c52r7, c52r8, c52r9, c52r10, c52r11, c52r12, c52r13, c52r14, c52r16, EV0, EV1, EV2, EV3, EV4, EV5, EV6, EV7, EV8, VALS, plug, ite_same, decide_true, decide_false, eq_self, ↓reduceIte, reduceCtorEq, Nat.reduceAdd, Nat.reduceEqDiff, Nat.reduceLT, Nat.reduceLeDiff, Nat.reduceMul, Nat.reduceSub, Nat.reduceDiv, Int.reduceToNat, Int.reduceAdd, Int.reduceSub, Int.reduceMul, Int.reduceNeg, Int.reduceEq, Int.reduceLT, Int.reduceLE] <;> rfl
        case g5 => simp only [List.length_set]; exact hul
        case g6 => exact us_step hul hlt hus (by rw [hund]; try rfl)
  · obtain rfl : k = l.length := by omega
    have hlt' : ¬ (l.length : Int) < l.length := by omega
    repeat' first
      | with_reducible refine k_seq ?_
      | with_reducible refine k_skip ?_
      | with_reducible refine k_blkS ?_
      | with_reducible refine k_blkR ?_
      | with_reducible refine k_blkC ?_
      | with_reducible refine k_blkH ?_
      | with_reducible refine k_blkB ?_
      | with_reducible refine k_blkK ?_
      | with_reducible refine k_blkE ?_
      | with_reducible refine k_reg ?_
      | with_reducible refine k_head (by with_unfolding_all rfl) ?_
      | with_reducible refine k_headS ?_
      | (with_reducible refine SepK.mk ?_ ?_; (refine sepQ_P ?_; simp [sepQ, sepG, AOp.late, AOp.free, AOp.xs, AOp.isAl, tokNe, AV.tok, stS_get, strip, AX.val, c52r0, c52r1, c52r2, c52r3, c52r4, c52r5, c52r6, c52r7, c52r8, c52r9, c52r10, c52r11, c52r12, c52r13, c52r14, c52r16, GA]; try omega))
      | with_reducible refine r_done ?_
      | with_reducible refine hr_done ?_
      | with_reducible refine s_go (by simp (disch := omega) only [hlt', c52r0, c52r1, c52r2, c52r3, c52r4, c52r5, c52r6, c52r7, c52r8, c52r9, c52r10, c52r11, c52r12, c52r13, c52r14, c52r16, EV0, EV1, EV2, EV3, EV4, EV5, EV6, EV7, EV8, VALS, plug, ite_same, decide_true, decide_false, eq_self, ↓reduceIte, reduceCtorEq, Nat.reduceAdd, Nat.reduceEqDiff, Nat.reduceLT, Nat.reduceLeDiff, Nat.reduceMul, Nat.reduceSub, Nat.reduceDiv, Int.reduceToNat, Int.reduceAdd, Int.reduceSub, Int.reduceMul, Int.reduceNeg, Int.reduceEq, Int.reduceLT, Int.reduceLE]; with_reducible rfl) ?_
      | with_reducible refine h_go (by with_unfolding_all rfl) (by simp (disch := omega) only [hlt', c52r0, c52r1, c52r2, c52r3, c52r4, c52r5, c52r6, c52r7, c52r8, c52r9, c52r10, c52r11, c52r12, c52r13, c52r14, c52r16, EV0, EV1, EV2, EV3, EV4, EV5, EV6, EV7, EV8, VALS, plug, ite_same, decide_true, decide_false, eq_self, ↓reduceIte, reduceCtorEq, Nat.reduceAdd, Nat.reduceEqDiff, Nat.reduceLT, Nat.reduceLeDiff, Nat.reduceMul, Nat.reduceSub, Nat.reduceDiv, Int.reduceToNat, Int.reduceAdd, Int.reduceSub, Int.reduceMul, Int.reduceNeg, Int.reduceEq, Int.reduceLT, Int.reduceLE]; with_reducible rfl) ?_
      | ((with_reducible refine chk_r ?_); refine r_callF (by simp only [CA, Nat.reduceEqDiff, ↓reduceIte]; rfl) (by exact rfl) (by simp only [CA, Nat.reduceEqDiff, ↓reduceIte]; rfl) rfl ?_)
      | ((with_reducible refine chk_h ?_); refine hr_callF (by simp only [CA, Nat.reduceEqDiff, ↓reduceIte]; rfl) (by exact rfl) (by simp only [CA, Nat.reduceEqDiff, ↓reduceIte]; rfl) rfl ?_)
      | ((with_reducible refine chk_h ?_); refine hr_app (by simp (disch := omega) only [hlt', c52r0, c52r1, c52r2, c52r3, c52r4, c52r5, c52r6, c52r7, c52r8, c52r9, c52r10, c52r11, c52r12, c52r13, c52r14, c52r16, EV0, EV1, EV2, EV3, EV4, EV5, EV6, EV7, EV8, VALS, plug, ite_same, decide_true, decide_false, eq_self, ↓reduceIte, reduceCtorEq, Nat.reduceAdd, Nat.reduceEqDiff, Nat.reduceLT, Nat.reduceLeDiff, Nat.reduceMul, Nat.reduceSub, Nat.reduceDiv, Int.reduceToNat, Int.reduceAdd, Int.reduceSub, Int.reduceMul, Int.reduceNeg, Int.reduceEq, Int.reduceLT, Int.reduceLE]; with_reducible rfl) rfl ?_)
      | (with_reducible refine k_condP (by simp only [GA, Nat.reduceEqDiff, ↓reduceIte]; rfl) (by first | (simp only [BO]; rfl) | rfl) (fun ht => ?_) (fun ht => ?_) <;> try (first | exact False.elim ht | exact absurd rfl ht | exact absurd trivial ht | exact Bool.noConfusion ht))
      | (with_reducible refine k_ret ?_; repeat with_reducible (first | refine ret_thru ?_ | refine ret_blk ?_ | refine fin ?_))
      | (with_reducible refine k_exit ?_; repeat with_reducible (first | refine thru ?_ | refine out_blk ?_ | refine pass (by decide) ?_))
      | (refine post1 ?_; simp only [GA, Nat.reduceEqDiff, ↓reduceIte])
      | (refine post2 ?_; simp only [GA, Nat.reduceEqDiff, ↓reduceIte])
      | (refine post3 ?_; simp only [GA, Nat.reduceEqDiff, ↓reduceIte])
      | (refine postc (by simp only [GA, Nat.reduceEqDiff, ↓reduceIte]; rfl) (by simp (disch := omega) only [hlt', c52r0, c52r1, c52r2, c52r3, c52r4, c52r5, c52r6, c52r7, c52r8, c52r9, c52r10, c52r11, c52r12, c52r13, c52r14, c52r16, EV0, EV1, EV2, EV3, EV4, EV5, EV6, EV7, EV8, VALS, plug, ite_same, decide_true, decide_false, eq_self, ↓reduceIte, reduceCtorEq, Nat.reduceAdd, Nat.reduceEqDiff, Nat.reduceLT, Nat.reduceLeDiff, Nat.reduceMul, Nat.reduceSub, Nat.reduceDiv, Int.reduceToNat, Int.reduceAdd, Int.reduceSub, Int.reduceMul, Int.reduceNeg, Int.reduceEq, Int.reduceLT, Int.reduceLE]; rfl) ?_)
      | refine post0 ?_
    have eu := undL_eq hul hus
    refine (N.keep (h' := (h.bump 1).bump 4) fun _ _ hb => hb).ends (v2 := .tu [vRows (rowsK l l.length), .sl u 0 l.length 1]) (.tu (.cons ?_ (.cons .same .nil))) fun h2 F => ?_
    · rw [rv_map]
      have := @FrzV.sl r ((rowsK l l.length).map rvN) 0 (rowsK l l.length).length 1 1 (by simp)
      rwa [List.drop_zero, List.take_of_length_le (by simp)] at this
    · have hu2 := F u _ ur un hu
      refine ⟨_, .step hu2 (FrzH.kill _ _ _) (.tu (.cons .same (.cons ?_ .nil))) .done⟩
      rw [eu]
      have := @FrzV.sl u (il (undL l)) 0 l.length 1 1 (by simp [il_len, undL])
      rwa [List.drop_zero, List.take_of_length_le (by simp [il_len, undL])] at this
end Go.Proofs.Ytjncfpfgobojpaa
set_option linter.unusedVariables false
set_option linter.unusedSimpArgs false
namespace Go.Proofs.Ytjncfpfgobojpaa
open Go Go.Am Go.Proofs Go.Sort
/-! ### Rows, Fewest, and the example -/
open Classical in
noncomputable def rowsR (l : List B) : List (List Nat) := if VL l then rowsL l else []
open Classical in
noncomputable def erR (l : List B) : Int := if VL l then 0 else 60
theorem pc18 (l : List B) (hl : l.length ≤ 9223372036854775807) : PC Try.prog 18 [vB l] (.tu [vRows (rowsR l), .i .i64 (erR l)]) := by
  refine pc_fn fn18 (by simp only [AV.plains, AV.plain, il_plain, bl_plain, Bool.and_true, Bool.true_and, Bool.and_self, flB_plain, rows_plain]) (by simp only [AV.plains, AV.plain, il_plain, bl_plain, Bool.and_true, Bool.true_and, Bool.and_self, flB_plain, rows_plain]) (Nat.le_of_ble_eq_true rfl) ?_
  rw [initSt1]
  have q := pc26 l hl
  unfold rowsR erR
  by_cases hv : VL l
  · rw [if_pos hv, if_pos hv]
    rw [vl_t hv] at q
    have q2 := pc52 l hv
    repeat' first
      | with_reducible refine k_seq ?_
      | with_reducible refine k_skip ?_
      | with_reducible refine k_blkS ?_
      | with_reducible refine k_blkR ?_
      | with_reducible refine k_blkC ?_
      | with_reducible refine k_blkH ?_
      | with_reducible refine k_blkB ?_
      | with_reducible refine k_blkK ?_
      | with_reducible refine k_blkE ?_
      | with_reducible refine k_reg ?_
      | with_reducible refine r_done ?_
      | with_reducible refine s_go (by simp (disch := omega) only [c18r0, c18r1, c18r2, c18r3, c18r4, EV0, EV1, EV2, EV3, EV4, EV5, EV6, EV7, EV8, VALS, plug, ite_same, decide_true, decide_false, eq_self, ↓reduceIte, reduceCtorEq, Nat.reduceAdd, Nat.reduceEqDiff, Nat.reduceLT, Nat.reduceLeDiff, Nat.reduceMul, Nat.reduceSub, Nat.reduceDiv, Int.reduceToNat, Int.reduceAdd, Int.reduceSub, Int.reduceMul, Int.reduceNeg, Int.reduceEq, Int.reduceLT, Int.reduceLE]; with_reducible rfl) ?_
      | ((with_reducible refine chk_r ?_); refine r_callF (by simp only [CA, Nat.reduceEqDiff, ↓reduceIte]; rfl) (by exact rfl) (by simp only [CA, Nat.reduceEqDiff, ↓reduceIte]; rfl) rfl ?_)
      | ((with_reducible refine chk_r ?_); refine r_callP (by simp only [CA, Nat.reduceEqDiff, ↓reduceIte]; rfl) (by simp only [CA, Nat.reduceEqDiff, ↓reduceIte]; rfl) (by first | exact q _ | exact q2 _) rfl ?_)
      | (with_reducible refine k_condP (by simp only [GA, Nat.reduceEqDiff, ↓reduceIte]; rfl) (by first | (simp only [BO]; rfl) | rfl) (fun ht => ?_) (fun ht => ?_) <;> try (first | exact False.elim ht | exact absurd rfl ht | exact absurd trivial ht | exact Bool.noConfusion ht))
      | (with_reducible refine k_ret ?_; repeat with_reducible (first | refine ret_thru ?_ | refine ret_blk ?_ | refine fin ?_))
      | (with_reducible refine k_exit ?_; repeat with_reducible (first | refine thru ?_ | refine out_blk ?_ | refine pass (by decide) ?_))
      | (refine post1 ?_; simp only [GA, Nat.reduceEqDiff, ↓reduceIte])
      | (refine post2 ?_; simp only [GA, Nat.reduceEqDiff, ↓reduceIte])
      | (refine post3 ?_; simp only [GA, Nat.reduceEqDiff, ↓reduceIte])
      | (refine postc (by simp only [GA, Nat.reduceEqDiff, ↓reduceIte]; rfl) (by simp (disch := omega) only [c18r0, c18r1, c18r2, c18r3, c18r4, EV0, EV1, EV2, EV3, EV4, EV5, EV6, EV7, EV8, VALS, plug, ite_same, decide_true, decide_false, eq_self, ↓reduceIte, reduceCtorEq, Nat.reduceAdd, Nat.reduceEqDiff, Nat.reduceLT, Nat.reduceLeDiff, Nat.reduceMul, Nat.reduceSub, Nat.reduceDiv, Int.reduceToNat, Int.reduceAdd, Int.reduceSub, Int.reduceMul, Int.reduceNeg, Int.reduceEq, Int.reduceLT, Int.reduceLE]; rfl) ?_)
      | refine post0 ?_
    all_goals first | exact ends_of | exact ends_eq rfl
  · rw [if_neg hv, if_neg hv]
    rw [vl_f hv] at q
    repeat' first
      | with_reducible refine k_seq ?_
      | with_reducible refine k_skip ?_
      | with_reducible refine k_blkS ?_
      | with_reducible refine k_blkR ?_
      | with_reducible refine k_blkC ?_
      | with_reducible refine k_blkH ?_
      | with_reducible refine k_blkB ?_
      | with_reducible refine k_blkK ?_
      | with_reducible refine k_blkE ?_
      | with_reducible refine k_reg ?_
      | with_reducible refine r_done ?_
      | with_reducible refine s_go (by simp (disch := omega) only [c18r0, c18r1, c18r2, c18r3, c18r4, EV0, EV1, EV2, EV3, EV4, EV5, EV6, EV7, EV8, VALS, plug, ite_same, decide_true, decide_false, eq_self, ↓reduceIte, reduceCtorEq, Nat.reduceAdd, Nat.reduceEqDiff, Nat.reduceLT, Nat.reduceLeDiff, Nat.reduceMul, Nat.reduceSub, Nat.reduceDiv, Int.reduceToNat, Int.reduceAdd, Int.reduceSub, Int.reduceMul, Int.reduceNeg, Int.reduceEq, Int.reduceLT, Int.reduceLE]; with_reducible rfl) ?_
      | ((with_reducible refine chk_r ?_); refine r_callF (by simp only [CA, Nat.reduceEqDiff, ↓reduceIte]; rfl) (by exact rfl) (by simp only [CA, Nat.reduceEqDiff, ↓reduceIte]; rfl) rfl ?_)
      | ((with_reducible refine chk_r ?_); refine r_callP (by simp only [CA, Nat.reduceEqDiff, ↓reduceIte]; rfl) (by simp only [CA, Nat.reduceEqDiff, ↓reduceIte]; rfl) (by first | exact q _) rfl ?_)
      | (with_reducible refine k_condP (by simp only [GA, Nat.reduceEqDiff, ↓reduceIte]; rfl) (by first | (simp only [BO]; rfl) | rfl) (fun ht => ?_) (fun ht => ?_) <;> try (first | exact False.elim ht | exact absurd rfl ht | exact absurd trivial ht | exact Bool.noConfusion ht))
      | (with_reducible refine k_ret ?_; repeat with_reducible (first | refine ret_thru ?_ | refine ret_blk ?_ | refine fin ?_))
      | (with_reducible refine k_exit ?_; repeat with_reducible (first | refine thru ?_ | refine out_blk ?_ | refine pass (by decide) ?_))
      | (refine post1 ?_; simp only [GA, Nat.reduceEqDiff, ↓reduceIte])
      | (refine post2 ?_; simp only [GA, Nat.reduceEqDiff, ↓reduceIte])
      | (refine post3 ?_; simp only [GA, Nat.reduceEqDiff, ↓reduceIte])
      | (refine postc (by simp only [GA, Nat.reduceEqDiff, ↓reduceIte]; rfl) (by simp (disch := omega) only [c18r0, c18r1, c18r2, c18r3, c18r4, EV0, EV1, EV2, EV3, EV4, EV5, EV6, EV7, EV8, VALS, plug, ite_same, decide_true, decide_false, eq_self, ↓reduceIte, reduceCtorEq, Nat.reduceAdd, Nat.reduceEqDiff, Nat.reduceLT, Nat.reduceLeDiff, Nat.reduceMul, Nat.reduceSub, Nat.reduceDiv, Int.reduceToNat, Int.reduceAdd, Int.reduceSub, Int.reduceMul, Int.reduceNeg, Int.reduceEq, Int.reduceLT, Int.reduceLE]; rfl) ?_)
      | refine post0 ?_
    exact ends_nil2
theorem rowsR_len (l : List B) : (rowsR l).length ≤ l.length := by
  unfold rowsR
  split
  · exact rowsK_len l (Nat.le_refl _)
  · simp
theorem pc20 (l : List B) (hl : l.length ≤ 9223372036854775807) : PC Try.prog 20 [vB l] (.tu [.i .i64 ((rowsR l).length : Int), .i .i64 (erR l)]) := by
  refine pc_fn fn20 (by simp only [AV.plains, AV.plain, il_plain, bl_plain, Bool.and_true, Bool.true_and, Bool.and_self, flB_plain]) (by simp only [AV.plains, AV.plain, il_plain, bl_plain, Bool.and_true, Bool.true_and, Bool.and_self, flB_plain]) (Nat.le_of_ble_eq_true rfl) ?_
  rw [initSt1]
  have q := pc18 l hl
  generalize rowsR l = M at q ⊢
  generalize erR l = A at q ⊢
  repeat' first
    | with_reducible refine k_seq ?_
    | with_reducible refine k_skip ?_
    | with_reducible refine k_blkS ?_
    | with_reducible refine k_blkR ?_
    | with_reducible refine k_blkC ?_
    | with_reducible refine k_blkH ?_
    | with_reducible refine k_blkB ?_
    | with_reducible refine k_blkK ?_
    | with_reducible refine k_blkE ?_
    | with_reducible refine k_reg ?_
    | with_reducible refine r_done ?_
    | with_reducible refine s_go (by simp (disch := omega) only [c20r0, c20r1, c20r2, EV0, EV1, EV2, EV3, EV4, EV5, EV6, EV7, EV8, VALS, plug, ite_same, decide_true, decide_false, eq_self, ↓reduceIte, reduceCtorEq, Nat.reduceAdd, Nat.reduceEqDiff, Nat.reduceLT, Nat.reduceLeDiff, Nat.reduceMul, Nat.reduceSub, Nat.reduceDiv, Int.reduceToNat, Int.reduceAdd, Int.reduceSub, Int.reduceMul, Int.reduceNeg, Int.reduceEq, Int.reduceLT, Int.reduceLE]; with_reducible rfl) ?_
    | ((with_reducible refine chk_r ?_); refine r_callF (by simp only [CA, Nat.reduceEqDiff, ↓reduceIte]; rfl) (by exact rfl) (by simp only [CA, Nat.reduceEqDiff, ↓reduceIte]; rfl) rfl ?_)
    | ((with_reducible refine chk_r ?_); refine r_callP (by simp only [CA, Nat.reduceEqDiff, ↓reduceIte]; rfl) (by simp only [CA, Nat.reduceEqDiff, ↓reduceIte]; rfl) (by first | exact q _) rfl ?_)
    | (with_reducible refine k_condP (by simp only [GA, Nat.reduceEqDiff, ↓reduceIte]; rfl) (by first | (simp only [BO]; rfl) | rfl) (fun ht => ?_) (fun ht => ?_) <;> try (first | exact False.elim ht | exact absurd rfl ht | exact absurd trivial ht | exact Bool.noConfusion ht))
    | (with_reducible refine k_ret ?_; repeat with_reducible (first | refine ret_thru ?_ | refine ret_blk ?_ | refine fin ?_))
    | (with_reducible refine k_exit ?_; repeat with_reducible (first | refine thru ?_ | refine out_blk ?_ | refine pass (by decide) ?_))
    | (refine post1 ?_; simp only [GA, Nat.reduceEqDiff, ↓reduceIte])
    | (refine post2 ?_; simp only [GA, Nat.reduceEqDiff, ↓reduceIte])
    | (refine post3 ?_; simp only [GA, Nat.reduceEqDiff, ↓reduceIte])
    | (refine postc (by simp only [GA, Nat.reduceEqDiff, ↓reduceIte]; rfl) (by simp (disch := omega) only [c20r0, c20r1, c20r2, EV0, EV1, EV2, EV3, EV4, EV5, EV6, EV7, EV8, VALS, plug, ite_same, decide_true, decide_false, eq_self, ↓reduceIte, reduceCtorEq, Nat.reduceAdd, Nat.reduceEqDiff, Nat.reduceLT, Nat.reduceLeDiff, Nat.reduceMul, Nat.reduceSub, Nat.reduceDiv, Int.reduceToNat, Int.reduceAdd, Int.reduceSub, Int.reduceMul, Int.reduceNeg, Int.reduceEq, Int.reduceLT, Int.reduceLE]; rfl) ?_)
    | refine post0 ?_
  all_goals first | exact ends_of | exact ends_eq rfl
section
variable {P : Program} {N : Nat} {Q : Exit → St → AH → Prop} {st : St} {h : AH}
/-- a row that lies in one slot alone, az a value from here on -/
theorem w_frz1 {c : AC} (d : Nat) {t n a : Nat} (k : Nat) {cs : List AV} (hm : h.m t = some (.cells true cs)) (hd : st.get d = .sl t 0 n a) (hl : n * k = cs.length) (w : W P N c Q [(d, .vs n cs)] (h.kill t)) : W P N c Q st h :=
  w_frz hm (fun x => by
    simp only [St.get]
    by_cases e : x = d
    · subst e
      rw [hd, if_pos rfl]
      have := @FrzV.sl t cs 0 n k a (by omega)
      rwa [List.drop_zero, hl, List.take_length] at this
    · rw [if_neg e]; exact .un) w
end
def Lx : List B := [⟨1, 1, 5, 0, 0, 0, 0⟩, ⟨2, 2, 3, 0, 0, 0, 0⟩]
theorem Lx_VL : VL Lx := ⟨by decide, by
  show vk Lx 2
  refine vk_succ.2 ⟨vk_succ.2 ⟨⟨fun i h => by omega, fun i j h1 h2 => by omega⟩, by decide, fun i h => by omega⟩, by decide, fun i h => ?_⟩
  obtain rfl : i = 0 := by omega
  decide⟩
theorem Lx_order : orderL Lx = [0, 1] := by
  unfold orderL
  have : List.range Lx.length = [0, 1] := rfl
  rw [this]
  exact List.mergeSort_of_pairwise (by simp; decide)
theorem Lx_rows : rowsL Lx = [[0], [1]] := by
  unfold rowsL rowsK
  rw [Lx_order]
  decide
theorem pc17 : PC Try.prog 17 [] (.b true) := by
  refine pc_fn fn17 (by simp only [AV.plains, AV.plain, il_plain, bl_plain, Bool.and_true, Bool.true_and, Bool.and_self]) (by simp only [AV.plains, AV.plain, il_plain, bl_plain, Bool.and_true, Bool.true_and, Bool.and_self]) (Nat.le_of_ble_eq_true rfl) ?_
  rw [initSt0]
  have v := Lx_VL
  have q1 := pc20 Lx (by decide)
  have q2 := pc18 Lx (by decide)
  have e : erR Lx = 0 := by unfold erR; rw [if_pos v]
  have r : rowsR Lx = [[0], [1]] := by unfold rowsR; rw [if_pos v]; exact Lx_rows
  rw [e, r] at q1 q2
  refine k_seq (k_reg ?_)
  refine s_go (by simp (disch := omega) only [c17r0, c17r1, c17r2, c17r3, c17r4, EV0, EV1, EV2, EV3, EV4, EV5, EV6, EV7, EV8, VALS, plug, ite_same, decide_true, decide_false, eq_self, ↓reduceIte, reduceCtorEq, Nat.reduceAdd, Nat.reduceEqDiff, Nat.reduceLT, Nat.reduceLeDiff, Nat.reduceMul, Nat.reduceSub, Nat.reduceDiv, Int.reduceToNat, Int.reduceAdd, Int.reduceSub, Int.reduceMul, Int.reduceNeg, Int.reduceEq, Int.reduceLT, Int.reduceLE]; with_reducible rfl) ?_
  refine r_done ?_
  refine k_seq (k_reg ?_)
  refine s_go (by simp (disch := omega) only [c17r0, c17r1, c17r2, c17r3, c17r4, EV0, EV1, EV2, EV3, EV4, EV5, EV6, EV7, EV8, VALS, plug, ite_same, decide_true, decide_false, eq_self, ↓reduceIte, reduceCtorEq, Nat.reduceAdd, Nat.reduceEqDiff, Nat.reduceLT, Nat.reduceLeDiff, Nat.reduceMul, Nat.reduceSub, Nat.reduceDiv, Int.reduceToNat, Int.reduceAdd, Int.reduceSub, Int.reduceMul, Int.reduceNeg, Int.reduceEq, Int.reduceLT, Int.reduceLE]; with_reducible rfl) ?_
  refine r_done ?_
  refine w_frz1 (t := 4) (n := 2) (a := 7) 1 7 (by simp (disch := omega) only [c17r0, c17r1, c17r2, c17r3, c17r4, EV0, EV1, EV2, EV3, EV4, EV5, EV6, EV7, EV8, VALS, plug, ite_same, decide_true, decide_false, eq_self, ↓reduceIte, reduceCtorEq, Nat.reduceAdd, Nat.reduceEqDiff, Nat.reduceLT, Nat.reduceLeDiff, Nat.reduceMul, Nat.reduceSub, Nat.reduceDiv, Int.reduceToNat, Int.reduceAdd, Int.reduceSub, Int.reduceMul, Int.reduceNeg, Int.reduceEq, Int.reduceLT, Int.reduceLE] <;> rfl) rfl rfl ?_
  simp only [Lx, eB, vB, vRows, rvN, nl, fl, List.map_cons, List.map_nil, List.flatten_cons, List.flatten_nil, List.cons_append, List.nil_append, List.append_nil, List.length_cons, List.length_nil] at q1 q2 ⊢
  repeat' first
    | with_reducible refine k_seq ?_
    | with_reducible refine k_skip ?_
    | with_reducible refine k_blkS ?_
    | with_reducible refine k_blkR ?_
    | with_reducible refine k_blkC ?_
    | with_reducible refine k_blkH ?_
    | with_reducible refine k_blkB ?_
    | with_reducible refine k_blkK ?_
    | with_reducible refine k_blkE ?_
    | with_reducible refine k_reg ?_
    | with_reducible refine r_done ?_
    | with_reducible refine s_go (by simp (disch := omega) only [c17r0, c17r1, c17r2, c17r3, c17r4, EV0, EV1, EV2, EV3, EV4, EV5, EV6, EV7, EV8, VALS, plug, ite_same, decide_true, decide_false, eq_self, ↓reduceIte, reduceCtorEq, Nat.reduceAdd, Nat.reduceEqDiff, Nat.reduceLT, Nat.reduceLeDiff, Nat.reduceMul, Nat.reduceSub, Nat.reduceDiv, Int.reduceToNat, Int.reduceAdd, Int.reduceSub, Int.reduceMul, Int.reduceNeg, Int.reduceEq, Int.reduceLT, Int.reduceLE]; with_reducible rfl) ?_
    | ((with_reducible refine chk_r ?_); refine r_callF (by simp only [CA, Nat.reduceEqDiff, ↓reduceIte]; rfl) (by exact rfl) (by simp only [CA, Nat.reduceEqDiff, ↓reduceIte]; rfl) rfl ?_)
    | ((with_reducible refine chk_r ?_); refine r_callP (by simp only [CA, Nat.reduceEqDiff, ↓reduceIte]; rfl) (by simp only [CA, Nat.reduceEqDiff, ↓reduceIte]; rfl) (by first | exact q1 _ | exact q2 _) rfl ?_)
    | (with_reducible refine k_condP (by simp only [GA, Nat.reduceEqDiff, ↓reduceIte]; rfl) (by first | (simp only [BO]; rfl) | rfl) (fun ht => ?_) (fun ht => ?_) <;> try (first | exact False.elim ht | exact absurd rfl ht | exact absurd trivial ht | exact Bool.noConfusion ht))
    | (with_reducible refine k_ret ?_; repeat with_reducible (first | refine ret_thru ?_ | refine ret_blk ?_ | refine fin ?_))
    | (with_reducible refine k_exit ?_; repeat with_reducible (first | refine thru ?_ | refine out_blk ?_ | refine pass (by decide) ?_))
    | (refine post1 ?_; simp only [GA, Nat.reduceEqDiff, ↓reduceIte])
    | (refine post2 ?_; simp only [GA, Nat.reduceEqDiff, ↓reduceIte])
    | (refine post3 ?_; simp only [GA, Nat.reduceEqDiff, ↓reduceIte])
    | (refine postc (by simp only [GA, Nat.reduceEqDiff, ↓reduceIte]; rfl) (by simp (disch := omega) only [c17r0, c17r1, c17r2, c17r3, c17r4, EV0, EV1, EV2, EV3, EV4, EV5, EV6, EV7, EV8, VALS, plug, ite_same, decide_true, decide_false, eq_self, ↓reduceIte, reduceCtorEq, Nat.reduceAdd, Nat.reduceEqDiff, Nat.reduceLT, Nat.reduceLeDiff, Nat.reduceMul, Nat.reduceSub, Nat.reduceDiv, Int.reduceToNat, Int.reduceAdd, Int.reduceSub, Int.reduceMul, Int.reduceNeg, Int.reduceEq, Int.reduceLT, Int.reduceLE]; rfl) ?_)
    | refine post0 ?_
  exact ends_eq (b_eq (by decide))
theorem decB (r : List AV) (h : Shps [.i .i64, .i .i64, .i .i64, .i .i64, .i .i64, .i .i64, .i .i64] r) : ∃ x : B, r = eB x ∧ True := by
  obtain ⟨_, _, rfl, t0, h⟩ := shps_cons h
  obtain ⟨_, _, rfl, t1, h⟩ := shps_cons h
  obtain ⟨_, _, rfl, t2, h⟩ := shps_cons h
  obtain ⟨_, _, rfl, t3, h⟩ := shps_cons h
  obtain ⟨_, _, rfl, t4, h⟩ := shps_cons h
  obtain ⟨_, _, rfl, t5, h⟩ := shps_cons h
  obtain ⟨_, _, rfl, t6, h⟩ := shps_cons h
  obtain rfl := shps_nil h
  obtain ⟨a, rfl, _⟩ := shp_i64 t0
  obtain ⟨b, rfl, _⟩ := shp_i64 t1
  obtain ⟨c, rfl, _⟩ := shp_i64 t2
  obtain ⟨d, rfl, _⟩ := shp_i64 t3
  obtain ⟨e, rfl, _⟩ := shp_i64 t4
  obtain ⟨f, rfl, _⟩ := shp_i64 t5
  obtain ⟨g, rfl, _⟩ := shp_i64 t6
  exact ⟨⟨a, b, c, d, e, f, g⟩, rfl, trivial⟩
end Go.Proofs.Ytjncfpfgobojpaa
set_option linter.unusedVariables false
set_option linter.unusedSimpArgs false
namespace Go.Proofs.Ytjncfpfgobojpaa
open Go Go.Am Go.Proofs Go.Sort
/-! ### Hours and stages -/
structure Rn where
  batch : Int
  fro : Int
  til : Int
  clean : Bool
def sumH (b : B) : Nat → Int
  | 0 => 0
  | k + 1 => sumH b k + hB b k
def hrs (b : B) : Int := sumH b 4
theorem hB_rng {b : B} (h : vb b = true) (k : Nat) : 0 ≤ hB b k ∧ hB b k ≤ 100 := by
  have := vb_len h
  match k with
  | 0 => exact this.1
  | 1 => exact this.2.1
  | 2 => exact this.2.2.1
  | k + 3 => exact this.2.2.2.1
theorem sumH_rng {b : B} (h : vb b = true) : ∀ k : Nat, 0 ≤ sumH b k ∧ sumH b k ≤ 100 * k
  | 0 => by simp [sumH]
  | k + 1 => by
    have := sumH_rng h k
    have := hB_rng h k
    simp only [sumH]
    omega
def cl (r : Rn) (c : Int) : Int := if r.clean = true then c else 0
end Go.Proofs.Ytjncfpfgobojpaa
set_option linter.unusedVariables false
set_option linter.unusedSimpArgs false
namespace Go.Proofs.Ytjncfpfgobojpaa
open Go Go.Am Go.Proofs Go.Sort
/-! ### Stage -/
/-- the stage so many hours behind the cleaning -/
def stv (b : B) (a : Int) : Int := if a < 0 then 0 else if a < sumH b 1 then 1 else if a < sumH b 2 then 2 else if a < sumH b 3 then 3 else if a < sumH b 4 then 4 else 5
theorem sumH_mono {b : B} (h : vb b = true) {i k : Nat} (hik : i ≤ k) : sumH b i ≤ sumH b k := by
  induction k with
  | zero => obtain rfl : i = 0 := by omega
            exact Int.le_refl _
  | succ k ih =>
    by_cases e : i = k + 1
    · subst e; exact Int.le_refl _
    · have := ih (by omega)
      have := hB_rng h k
      simp only [sumH]; omega
abbrev rB (l : List B) (r : Rn) : B := bD l r.batch.toNat
end Go.Proofs.Ytjncfpfgobojpaa
set_option linter.unusedVariables false
set_option linter.unusedSimpArgs false
namespace Go.Proofs.Ytjncfpfgobojpaa
open Go Go.Am Go.Proofs Go.Sort
def lc (l : List B) (c : Int) : Nat → Int
  | 0 => 0
  | k + 1 => max (lc l c k) (hrs (bD l k) + c)
def dv (s c : Int) (b : Nat) : Int := (s + b * c + b - 1).tdiv b
def bm (s c : Int) : Nat → Int
  | 0 => s + c
  | k + 1 => min (bm s c k) (dv s c (k + 1))
end Go.Proofs.Ytjncfpfgobojpaa
set_option linter.unusedVariables false
set_option linter.unusedSimpArgs false
namespace Go.Proofs.Ytjncfpfgobojpaa
open Go Go.Am Go.Proofs Go.Sort
/-! ### Lists of indexes -/
theorem getD_setb {us : List Bool} {i j : Nat} {v : Bool} (hi : i < us.length) : (us.set i v).getD j false = if j = i then v else us.getD j false := by
  by_cases e : j = i
  · subst e; simp [List.getD_eq_getElem?_getD, hi]
  · have : ¬ i = j := fun q => e q.symm
    simp [List.getD_eq_getElem?_getD, List.getElem?_set, this, e]
theorem GK.bad {l : List B} {ns : List Int} {k : Nat} (hk : k < ns.length) (h : ¬ (0 ≤ ni ns k ∧ ni ns k < l.length) ∨ hasI ns k (ni ns k)) : ¬ GK l ns ns.length := fun g => by
  have := g k hk
  rcases h with h | h
  · exact h ⟨this.1, this.2.1⟩
  · exact this.2.2 h
end Go.Proofs.Ytjncfpfgobojpaa
set_option linter.unusedVariables false
set_option linter.unusedSimpArgs false
namespace Go.Proofs.Ytjncfpfgobojpaa
open Go Go.Am Go.Proofs Go.Sort
/-! ### Apart, Length -/
theorem GK.le {l : List B} {ns : List Int} (g : GK l ns ns.length) : ns.length ≤ l.length := by
  refine IX.le (l := l) (fun x hx => ?_) (List.pairwise_iff_getElem.2 fun i j hi hj hij e => ?_)
  · obtain ⟨k, hk, e⟩ := List.getElem_of_mem hx
    have := g k hk
    have e' : ni ns k = x := by simp [ni, hk, e]
    rw [e'] at this
    exact ⟨this.1, this.2.1⟩
  · refine (g j hj).2.2 ⟨i, hij, ?_⟩
    simp only [ni]; rw [getD_lt hi, getD_lt hj]; exact e
theorem AP.no {l : List B} {ns : List Int} {k j : Nat} (hk : k < ns.length) (hj : j < k) {a b : Nat} (ea : ni ns k = a) (eb : ni ns j = b) (h : mayB (bD l a) (bD l b) = true ∨ mayB (bD l b) (bD l a) = true) : ¬ AP l ns ns.length := fun p => by
  have := p k hk j hj
  simp only [mayZ, mayI, ea, eb, Int.toNat_natCast] at this
  rcases h with h | h
  · rw [h] at this; exact absurd this.1 (by decide)
  · rw [h] at this; exact absurd this.2 (by decide)
/-- one is apart from the first j -/
def AQ (l : List B) (ns : List Int) (k j : Nat) : Prop := ∀ i, i < j → mayZ l (ni ns k) (ni ns i) = false ∧ mayZ l (ni ns i) (ni ns k) = false
theorem AQ.succ {l : List B} {ns : List Int} {k j : Nat} (p : AQ l ns k j) {a b : Nat} (ea : ni ns k = a) (eb : ni ns j = b) (h1 : mayB (bD l a) (bD l b) = false) (h2 : mayB (bD l b) (bD l a) = false) : AQ l ns k (j + 1) := fun i hi => by
  by_cases e : i = j
  · subst e
    simp only [mayZ, mayI, ea, eb, Int.toNat_natCast]
    exact ⟨h1, h2⟩
  · exact p i (by omega)
theorem AP.succ {l : List B} {ns : List Int} {k : Nat} (p : AP l ns k) (q : AQ l ns k k) : AP l ns (k + 1) := fun i hi j hj => by
  by_cases e : i = k
  · subst e; exact q j hj
  · exact p i (by omega) j hj
end Go.Proofs.Ytjncfpfgobojpaa
set_option linter.unusedVariables false
set_option linter.unusedSimpArgs false
namespace Go.Proofs.Ytjncfpfgobojpaa
open Go Go.Am Go.Proofs Go.Sort
/-! ### BarrelHours: the hours of a run, counted -/
/-- the stage at the k-th hour that is looked at; the first lies ahead of the run -/
def sgH (b : B) (w : Int) (k : Nat) : Int := if k = 0 ∨ w + hrs b ≤ (k : Int) - 1 then 5 else stv b ((k : Int) - 1 - w)
def qH (b : B) (w : Int) (k : Nat) : Int := min (max 0 ((k : Int) - 1)) (w + hrs b)
def Cn (b : B) (w : Int) (q : Int) : Nat → Int
  | 0 => min q w
  | j + 1 => max 0 (min (hB b j) (q - w - sumH b j))
theorem sgH_in {b : B} {w : Int} (hb : vb b = true) {k : Nat} (h0 : k ≠ 0) (h1 : (k : Int) - 1 < w + hrs b) : 0 ≤ sgH b w k ∧ sgH b w k ≤ 4 := by
  have a0 := hB_rng hb 0
  have a1 := hB_rng hb 1
  have a2 := hB_rng hb 2
  have a3 := hB_rng hb 3
  unfold sgH
  rw [if_neg (by omega)]
  simp only [stv, hrs, sumH] at *
  repeat' split
  all_goals omega
theorem sgH_out {b : B} {w : Int} {k : Nat} (h : k = 0 ∨ w + hrs b ≤ (k : Int) - 1) : sgH b w k = 5 := by unfold sgH; rw [if_pos h]
theorem Cn_zero {b : B} {w : Int} (hb : vb b = true) (hw : 0 ≤ w) (j : Nat) : Cn b w 0 j = 0 := by
  cases j with
  | zero => simp only [Cn]; omega
  | succ j =>
    have := sumH_rng hb j
    have := hB_rng hb j
    simp only [Cn]; omega
theorem Cn_end {b : B} {w : Int} (hb : vb b = true) {j : Nat} (hj : j < 4) : Cn b w (w + hrs b) (j + 1) = hB b j := by
  have m := sumH_mono hb (show j + 1 ≤ 4 by omega)
  have r := hB_rng hb j
  simp only [Cn, hrs, sumH] at *
  omega
structure HI (b : B) (w : Int) (k : Nat) (la : Int) (cs : List Int) : Prop where
  len : cs.length = 6
  cnt : ∀ j, j < 5 → cs.getD j 0 = Cn b w (qH b w k) j
  rng : ∀ j, j < 6 → 0 ≤ cs.getD j 0 ∧ cs.getD j 0 ≤ k
  la0 : 0 ≤ la ∧ la ≤ 4
  mono : ∀ j, k ≤ j → sgH b w j < 5 → la ≤ sgH b w j
theorem in_of {b : B} {w : Int} {j : Nat} (h : sgH b w j < 5) : j ≠ 0 ∧ (j : Int) - 1 < w + hrs b := by
  refine Classical.byContradiction fun hn => ?_
  rw [sgH_out (by omega)] at h
  omega
theorem repz (n j : Nat) : (List.replicate n (0 : Int)).getD j 0 = 0 := by
  simp only [List.getD_eq_getElem?_getD, List.getElem?_replicate]
  split <;> rfl
theorem HI.zero {b : B} {w : Int} (hb : vb b = true) (hw : 0 ≤ w) : HI b w 0 0 (List.replicate 6 0) := by
  have : 0 ≤ hrs b ∧ hrs b ≤ 400 := sumH_rng hb 4
  refine ⟨by simp, fun j hj => ?_, fun j hj => ?_, by omega, fun j hj h => ?_⟩
  · have e : qH b w 0 = 0 := by unfold qH; omega
    rw [e, Cn_zero hb hw, repz]
  · rw [repz]; omega
  · have := in_of h
    exact (sgH_in hb this.1 this.2).1
theorem HI.ends {b : B} {w : Int} (hb : vb b = true) (hw : 0 ≤ w) {k : Nat} {la : Int} {cs : List Int} (H : HI b w k la cs) (h : (k : Int) = w + hrs b + 2) {j : Nat} (hj : j < 4) : cs.getD (j + 1) 0 = hB b j := by
  have s : 0 ≤ hrs b ∧ hrs b ≤ 400 := sumH_rng hb 4
  have q : qH b w k = w + hrs b := by unfold qH; omega
  rw [H.cnt (j + 1) (by omega), q, Cn_end hb hj]
end Go.Proofs.Ytjncfpfgobojpaa
set_option linter.unusedVariables false
set_option linter.unusedSimpArgs false
namespace Go.Proofs.Ytjncfpfgobojpaa
open Go Go.Am Go.Proofs Go.Sort
theorem few_le {l : List B} (hv : VL l) : (rowsL l).length ≤ l.length := by
  have := rowsR_len l
  unfold rowsR at this
  rwa [if_pos hv] at this
end Go.Proofs.Ytjncfpfgobojpaa
set_option linter.unusedVariables false
set_option linter.unusedSimpArgs false
namespace Go.Proofs.Ytjncfpfgobojpaa
open Go Go.Am Go.Proofs Go.Sort
/-! ### ahead, same, sameRows -/
def ahB (a b : B) : Bool := decide (a.dark < b.dark ∨ (a.dark = b.dark ∧ (a.grain < b.grain ∨ (a.grain = b.grain ∧ a.num < b.num))))
theorem pc53 (a b : B) : PC Try.prog 53 [.ag (eB a), .ag (eB b)] (.b (ahB a b)) := by
  simp only [eB]
  refine pc_fn fn53 (by simp only [AV.plains, AV.plain, il_plain, bl_plain, Bool.and_true, Bool.true_and, Bool.and_self]) (by simp only [AV.plains, AV.plain, il_plain, bl_plain, Bool.and_true, Bool.true_and, Bool.and_self]) (Nat.le_of_ble_eq_true rfl) ?_
  rw [initSt2]
  unfold ahB
  by_cases h1 : a.dark = b.dark
  · have h1' := eq_true h1
    by_cases h2 : a.grain = b.grain
    · have h2' := eq_true h2
      repeat' first
        | with_reducible refine k_seq ?_
        | with_reducible refine k_skip ?_
        | with_reducible refine k_blkS ?_
        | with_reducible refine k_blkR ?_
        | with_reducible refine k_blkC ?_
        | with_reducible refine k_blkH ?_
        | with_reducible refine k_blkB ?_
        | with_reducible refine k_blkK ?_
        | with_reducible refine k_blkE ?_
        | with_reducible refine k_reg ?_
        | with_reducible refine r_done ?_
        | with_reducible refine s_go (by simp (disch := omega) only [h1', h2', c53r0, c53r1, c53r2, c53r3, c53r4, c53r5, EV0, EV1, EV2, EV3, EV4, EV5, EV6, EV7, EV8, VALS, plug, ite_same, decide_true, decide_false, eq_self, ↓reduceIte, reduceCtorEq, Nat.reduceAdd, Nat.reduceEqDiff, Nat.reduceLT, Nat.reduceLeDiff, Nat.reduceMul, Nat.reduceSub, Nat.reduceDiv, Int.reduceToNat, Int.reduceAdd, Int.reduceSub, Int.reduceMul, Int.reduceNeg, Int.reduceEq, Int.reduceLT, Int.reduceLE]; with_reducible rfl) ?_
        | ((with_reducible refine chk_r ?_); refine r_callF (by simp only [CA, Nat.reduceEqDiff, ↓reduceIte]; rfl) (by exact rfl) (by simp only [CA, Nat.reduceEqDiff, ↓reduceIte]; rfl) rfl ?_)
        | (with_reducible refine k_condP (by simp only [GA, Nat.reduceEqDiff, ↓reduceIte]; rfl) (by first | (simp only [BO]; rfl) | rfl) (fun ht => ?_) (fun ht => ?_) <;> try (first | exact False.elim ht | exact absurd rfl ht | exact absurd trivial ht | exact Bool.noConfusion ht))
        | (with_reducible refine k_ret ?_; repeat with_reducible (first | refine ret_thru ?_ | refine ret_blk ?_ | refine fin ?_))
        | (with_reducible refine k_exit ?_; repeat with_reducible (first | refine thru ?_ | refine out_blk ?_ | refine pass (by decide) ?_))
        | (refine post1 ?_; simp only [GA, Nat.reduceEqDiff, ↓reduceIte])
        | (refine post2 ?_; simp only [GA, Nat.reduceEqDiff, ↓reduceIte])
        | (refine post3 ?_; simp only [GA, Nat.reduceEqDiff, ↓reduceIte])
        | (refine postc (by simp only [GA, Nat.reduceEqDiff, ↓reduceIte]; rfl) (by simp (disch := omega) only [h1', h2', c53r0, c53r1, c53r2, c53r3, c53r4, c53r5, EV0, EV1, EV2, EV3, EV4, EV5, EV6, EV7, EV8, VALS, plug, ite_same, decide_true, decide_false, eq_self, ↓reduceIte, reduceCtorEq, Nat.reduceAdd, Nat.reduceEqDiff, Nat.reduceLT, Nat.reduceLeDiff, Nat.reduceMul, Nat.reduceSub, Nat.reduceDiv, Int.reduceToNat, Int.reduceAdd, Int.reduceSub, Int.reduceMul, Int.reduceNeg, Int.reduceEq, Int.reduceLT, Int.reduceLE]; rfl) ?_)
        | refine post0 ?_
      exact ends_eq (b_eq (by rw [decide_eq_decide]; omega))
    · have h2' := eq_false h2
      repeat' first
        | with_reducible refine k_seq ?_
        | with_reducible refine k_skip ?_
        | with_reducible refine k_blkS ?_
        | with_reducible refine k_blkR ?_
        | with_reducible refine k_blkC ?_
        | with_reducible refine k_blkH ?_
        | with_reducible refine k_blkB ?_
        | with_reducible refine k_blkK ?_
        | with_reducible refine k_blkE ?_
        | with_reducible refine k_reg ?_
        | with_reducible refine r_done ?_
        | with_reducible refine s_go (by simp (disch := omega) only [h1', h2', c53r0, c53r1, c53r2, c53r3, c53r4, c53r5, EV0, EV1, EV2, EV3, EV4, EV5, EV6, EV7, EV8, VALS, plug, ite_same, decide_true, decide_false, eq_self, ↓reduceIte, reduceCtorEq, Nat.reduceAdd, Nat.reduceEqDiff, Nat.reduceLT, Nat.reduceLeDiff, Nat.reduceMul, Nat.reduceSub, Nat.reduceDiv, Int.reduceToNat, Int.reduceAdd, Int.reduceSub, Int.reduceMul, Int.reduceNeg, Int.reduceEq, Int.reduceLT, Int.reduceLE]; with_reducible rfl) ?_
        | ((with_reducible refine chk_r ?_); refine r_callF (by simp only [CA, Nat.reduceEqDiff, ↓reduceIte]; rfl) (by exact rfl) (by simp only [CA, Nat.reduceEqDiff, ↓reduceIte]; rfl) rfl ?_)
        | (with_reducible refine k_condP (by simp only [GA, Nat.reduceEqDiff, ↓reduceIte]; rfl) (by first | (simp only [BO]; rfl) | rfl) (fun ht => ?_) (fun ht => ?_) <;> try (first | exact False.elim ht | exact absurd rfl ht | exact absurd trivial ht | exact Bool.noConfusion ht))
        | (with_reducible refine k_ret ?_; repeat with_reducible (first | refine ret_thru ?_ | refine ret_blk ?_ | refine fin ?_))
        | (with_reducible refine k_exit ?_; repeat with_reducible (first | refine thru ?_ | refine out_blk ?_ | refine pass (by decide) ?_))
        | (refine post1 ?_; simp only [GA, Nat.reduceEqDiff, ↓reduceIte])
        | (refine post2 ?_; simp only [GA, Nat.reduceEqDiff, ↓reduceIte])
        | (refine post3 ?_; simp only [GA, Nat.reduceEqDiff, ↓reduceIte])
        | (refine postc (by simp only [GA, Nat.reduceEqDiff, ↓reduceIte]; rfl) (by simp (disch := omega) only [h1', h2', c53r0, c53r1, c53r2, c53r3, c53r4, c53r5, EV0, EV1, EV2, EV3, EV4, EV5, EV6, EV7, EV8, VALS, plug, ite_same, decide_true, decide_false, eq_self, ↓reduceIte, reduceCtorEq, Nat.reduceAdd, Nat.reduceEqDiff, Nat.reduceLT, Nat.reduceLeDiff, Nat.reduceMul, Nat.reduceSub, Nat.reduceDiv, Int.reduceToNat, Int.reduceAdd, Int.reduceSub, Int.reduceMul, Int.reduceNeg, Int.reduceEq, Int.reduceLT, Int.reduceLE]; rfl) ?_)
        | refine post0 ?_
      exact ends_eq (b_eq (by rw [decide_eq_decide]; omega))
  · have h1' := eq_false h1
    repeat' first
      | with_reducible refine k_seq ?_
      | with_reducible refine k_skip ?_
      | with_reducible refine k_blkS ?_
      | with_reducible refine k_blkR ?_
      | with_reducible refine k_blkC ?_
      | with_reducible refine k_blkH ?_
      | with_reducible refine k_blkB ?_
      | with_reducible refine k_blkK ?_
      | with_reducible refine k_blkE ?_
      | with_reducible refine k_reg ?_
      | with_reducible refine r_done ?_
      | with_reducible refine s_go (by simp (disch := omega) only [h1', c53r0, c53r1, c53r2, c53r3, c53r4, c53r5, EV0, EV1, EV2, EV3, EV4, EV5, EV6, EV7, EV8, VALS, plug, ite_same, decide_true, decide_false, eq_self, ↓reduceIte, reduceCtorEq, Nat.reduceAdd, Nat.reduceEqDiff, Nat.reduceLT, Nat.reduceLeDiff, Nat.reduceMul, Nat.reduceSub, Nat.reduceDiv, Int.reduceToNat, Int.reduceAdd, Int.reduceSub, Int.reduceMul, Int.reduceNeg, Int.reduceEq, Int.reduceLT, Int.reduceLE]; with_reducible rfl) ?_
      | ((with_reducible refine chk_r ?_); refine r_callF (by simp only [CA, Nat.reduceEqDiff, ↓reduceIte]; rfl) (by exact rfl) (by simp only [CA, Nat.reduceEqDiff, ↓reduceIte]; rfl) rfl ?_)
      | (with_reducible refine k_condP (by simp only [GA, Nat.reduceEqDiff, ↓reduceIte]; rfl) (by first | (simp only [BO]; rfl) | rfl) (fun ht => ?_) (fun ht => ?_) <;> try (first | exact False.elim ht | exact absurd rfl ht | exact absurd trivial ht | exact Bool.noConfusion ht))
      | (with_reducible refine k_ret ?_; repeat with_reducible (first | refine ret_thru ?_ | refine ret_blk ?_ | refine fin ?_))
      | (with_reducible refine k_exit ?_; repeat with_reducible (first | refine thru ?_ | refine out_blk ?_ | refine pass (by decide) ?_))
      | (refine post1 ?_; simp only [GA, Nat.reduceEqDiff, ↓reduceIte])
      | (refine post2 ?_; simp only [GA, Nat.reduceEqDiff, ↓reduceIte])
      | (refine post3 ?_; simp only [GA, Nat.reduceEqDiff, ↓reduceIte])
      | (refine postc (by simp only [GA, Nat.reduceEqDiff, ↓reduceIte]; rfl) (by simp (disch := omega) only [h1', c53r0, c53r1, c53r2, c53r3, c53r4, c53r5, EV0, EV1, EV2, EV3, EV4, EV5, EV6, EV7, EV8, VALS, plug, ite_same, decide_true, decide_false, eq_self, ↓reduceIte, reduceCtorEq, Nat.reduceAdd, Nat.reduceEqDiff, Nat.reduceLT, Nat.reduceLeDiff, Nat.reduceMul, Nat.reduceSub, Nat.reduceDiv, Int.reduceToNat, Int.reduceAdd, Int.reduceSub, Int.reduceMul, Int.reduceNeg, Int.reduceEq, Int.reduceLT, Int.reduceLE]; rfl) ?_)
      | refine post0 ?_
    exact ends_eq (b_eq (by rw [decide_eq_decide]; omega))
theorem pc55 (r : List Nat) (hr : r.length ≤ 9223372036854775807) : PC Try.prog 55 [.vs r.length (nl r), .vs r.length (nl r)] (.b true) := by
  refine pc_fn fn55 (by simp only [AV.plains, AV.plain, il_plain, bl_plain, Bool.and_true, Bool.true_and, Bool.and_self, nl_plain]) (by simp only [AV.plains, AV.plain, il_plain, bl_plain, Bool.and_true, Bool.true_and, Bool.and_self, nl_plain]) (Nat.le_of_ble_eq_true rfl) ?_
  rw [initSt2]
  repeat' first
    | with_reducible refine k_seq ?_
    | with_reducible refine k_skip ?_
    | with_reducible refine k_blkS ?_
    | with_reducible refine k_blkR ?_
    | with_reducible refine k_blkC ?_
    | with_reducible refine k_blkH ?_
    | with_reducible refine k_blkB ?_
    | with_reducible refine k_blkK ?_
    | with_reducible refine k_blkE ?_
    | with_reducible refine k_reg ?_
    | with_reducible refine k_head (by with_unfolding_all rfl) ?_
    | with_reducible refine k_headS ?_
    | (with_reducible refine SepK.mk ?_ ?_; (refine sepQ_P ?_; simp [sepQ, sepG, AOp.late, AOp.free, AOp.xs, AOp.isAl, tokNe, AV.tok, stS_get, strip, AX.val, c55r0, c55r1, c55r2, c55r3, c55r4, c55r5, c55r6, c55r7, c55r9, GA]; try omega))
    | with_reducible refine r_done ?_
    | with_reducible refine hr_done ?_
    | with_reducible refine s_go (by simp (disch := omega) only [c55r0, c55r1, c55r2, c55r3, c55r4, c55r5, c55r6, c55r7, c55r9, EV0, EV1, EV2, EV3, EV4, EV5, EV6, EV7, EV8, VALS, plug, ite_same, decide_true, decide_false, eq_self, ↓reduceIte, reduceCtorEq, Nat.reduceAdd, Nat.reduceEqDiff, Nat.reduceLT, Nat.reduceLeDiff, Nat.reduceMul, Nat.reduceSub, Nat.reduceDiv, Int.reduceToNat, Int.reduceAdd, Int.reduceSub, Int.reduceMul, Int.reduceNeg, Int.reduceEq, Int.reduceLT, Int.reduceLE]; with_reducible rfl) ?_
    | with_reducible refine h_go (by with_unfolding_all rfl) (by simp (disch := omega) only [c55r0, c55r1, c55r2, c55r3, c55r4, c55r5, c55r6, c55r7, c55r9, EV0, EV1, EV2, EV3, EV4, EV5, EV6, EV7, EV8, VALS, plug, ite_same, decide_true, decide_false, eq_self, ↓reduceIte, reduceCtorEq, Nat.reduceAdd, Nat.reduceEqDiff, Nat.reduceLT, Nat.reduceLeDiff, Nat.reduceMul, Nat.reduceSub, Nat.reduceDiv, Int.reduceToNat, Int.reduceAdd, Int.reduceSub, Int.reduceMul, Int.reduceNeg, Int.reduceEq, Int.reduceLT, Int.reduceLE]; with_reducible rfl) ?_
    | ((with_reducible refine chk_r ?_); refine r_callF (by simp only [CA, Nat.reduceEqDiff, ↓reduceIte]; rfl) (by exact rfl) (by simp only [CA, Nat.reduceEqDiff, ↓reduceIte]; rfl) rfl ?_)
    | ((with_reducible refine chk_h ?_); refine hr_callF (by simp only [CA, Nat.reduceEqDiff, ↓reduceIte]; rfl) (by exact rfl) (by simp only [CA, Nat.reduceEqDiff, ↓reduceIte]; rfl) rfl ?_)
    | ((with_reducible refine chk_h ?_); refine hr_app (by simp (disch := omega) only [c55r0, c55r1, c55r2, c55r3, c55r4, c55r5, c55r6, c55r7, c55r9, EV0, EV1, EV2, EV3, EV4, EV5, EV6, EV7, EV8, VALS, plug, ite_same, decide_true, decide_false, eq_self, ↓reduceIte, reduceCtorEq, Nat.reduceAdd, Nat.reduceEqDiff, Nat.reduceLT, Nat.reduceLeDiff, Nat.reduceMul, Nat.reduceSub, Nat.reduceDiv, Int.reduceToNat, Int.reduceAdd, Int.reduceSub, Int.reduceMul, Int.reduceNeg, Int.reduceEq, Int.reduceLT, Int.reduceLE]; with_reducible rfl) rfl ?_)
    | (with_reducible refine k_condP (by simp only [GA, Nat.reduceEqDiff, ↓reduceIte]; rfl) (by first | (simp only [BO]; rfl) | rfl) (fun ht => ?_) (fun ht => ?_) <;> try (first | exact False.elim ht | exact absurd rfl ht | exact absurd trivial ht | exact Bool.noConfusion ht))
    | (with_reducible refine k_ret ?_; repeat with_reducible (first | refine ret_thru ?_ | refine ret_blk ?_ | refine fin ?_))
    | (with_reducible refine k_exit ?_; repeat with_reducible (first | refine thru ?_ | refine out_blk ?_ | refine pass (by decide) ?_))
    | (refine post1 ?_; simp only [GA, Nat.reduceEqDiff, ↓reduceIte])
    | (refine post2 ?_; simp only [GA, Nat.reduceEqDiff, ↓reduceIte])
    | (refine post3 ?_; simp only [GA, Nat.reduceEqDiff, ↓reduceIte])
    | (refine postc (by simp only [GA, Nat.reduceEqDiff, ↓reduceIte]; rfl) (by simp (disch := omega) only [c55r0, c55r1, c55r2, c55r3, c55r4, c55r5, c55r6, c55r7, c55r9, EV0, EV1, EV2, EV3, EV4, EV5, EV6, EV7, EV8, VALS, plug, ite_same, decide_true, decide_false, eq_self, ↓reduceIte, reduceCtorEq, Nat.reduceAdd, Nat.reduceEqDiff, Nat.reduceLT, Nat.reduceLeDiff, Nat.reduceMul, Nat.reduceSub, Nat.reduceDiv, Int.reduceToNat, Int.reduceAdd, Int.reduceSub, Int.reduceMul, Int.reduceNeg, Int.reduceEq, Int.reduceLT, Int.reduceLE]; rfl) ?_)
    | refine post0 ?_
  refine k_blk (k_loopS (X := Unit) [0, 1, 5] r.length (fun k _ => [(0, .vs r.length (nl r)), (1, .vs r.length (nl r)), (5, .i .i64 (k : Int))]) (fun k _ h => True) () (by simp only [Am.keep, List.map_cons, List.map_nil, GA, Nat.reduceEqDiff, ↓reduceIte]; try rfl) trivial ?_)
  rintro k _ h hk - ok pos
  by_cases hlt : k < r.length
  · have hlt' : (k : Int) < r.length := by omega
    have g := nl_get hlt
    repeat' first
      | with_reducible refine k_seq ?_
      | with_reducible refine k_skip ?_
      | with_reducible refine k_blkS ?_
      | with_reducible refine k_blkR ?_
      | with_reducible refine k_blkC ?_
      | with_reducible refine k_blkH ?_
      | with_reducible refine k_blkB ?_
      | with_reducible refine k_blkK ?_
      | with_reducible refine k_blkE ?_
      | with_reducible refine k_reg ?_
      | with_reducible refine k_head (by with_unfolding_all rfl) ?_
      | with_reducible refine k_headS ?_
      | (with_reducible refine SepK.mk ?_ ?_; (refine sepQ_P ?_; simp [sepQ, sepG, AOp.late, AOp.free, AOp.xs, AOp.isAl, tokNe, AV.tok, stS_get, strip, AX.val, c55r0, c55r1, c55r2, c55r3, c55r4, c55r5, c55r6, c55r7, c55r9, GA]; try omega))
      | with_reducible refine r_done ?_
      | with_reducible refine hr_done ?_
      | with_reducible refine s_go (by simp (disch := omega) only [hlt', g, c55r0, c55r1, c55r2, c55r3, c55r4, c55r5, c55r6, c55r7, c55r9, EV0, EV1, EV2, EV3, EV4, EV5, EV6, EV7, EV8, VALS, plug, ite_same, decide_true, decide_false, eq_self, ↓reduceIte, reduceCtorEq, Nat.reduceAdd, Nat.reduceEqDiff, Nat.reduceLT, Nat.reduceLeDiff, Nat.reduceMul, Nat.reduceSub, Nat.reduceDiv, Int.reduceToNat, Int.reduceAdd, Int.reduceSub, Int.reduceMul, Int.reduceNeg, Int.reduceEq, Int.reduceLT, Int.reduceLE]; with_reducible rfl) ?_
      | with_reducible refine h_go (by with_unfolding_all rfl) (by simp (disch := omega) only [hlt', g, c55r0, c55r1, c55r2, c55r3, c55r4, c55r5, c55r6, c55r7, c55r9, EV0, EV1, EV2, EV3, EV4, EV5, EV6, EV7, EV8, VALS, plug, ite_same, decide_true, decide_false, eq_self, ↓reduceIte, reduceCtorEq, Nat.reduceAdd, Nat.reduceEqDiff, Nat.reduceLT, Nat.reduceLeDiff, Nat.reduceMul, Nat.reduceSub, Nat.reduceDiv, Int.reduceToNat, Int.reduceAdd, Int.reduceSub, Int.reduceMul, Int.reduceNeg, Int.reduceEq, Int.reduceLT, Int.reduceLE]; with_reducible rfl) ?_
      | ((with_reducible refine chk_r ?_); refine r_callF (by simp only [CA, Nat.reduceEqDiff, ↓reduceIte]; rfl) (by exact rfl) (by simp only [CA, Nat.reduceEqDiff, ↓reduceIte]; rfl) rfl ?_)
      | ((with_reducible refine chk_h ?_); refine hr_callF (by simp only [CA, Nat.reduceEqDiff, ↓reduceIte]; rfl) (by exact rfl) (by simp only [CA, Nat.reduceEqDiff, ↓reduceIte]; rfl) rfl ?_)
      | ((with_reducible refine chk_h ?_); refine hr_app (by simp (disch := omega) only [hlt', g, c55r0, c55r1, c55r2, c55r3, c55r4, c55r5, c55r6, c55r7, c55r9, EV0, EV1, EV2, EV3, EV4, EV5, EV6, EV7, EV8, VALS, plug, ite_same, decide_true, decide_false, eq_self, ↓reduceIte, reduceCtorEq, Nat.reduceAdd, Nat.reduceEqDiff, Nat.reduceLT, Nat.reduceLeDiff, Nat.reduceMul, Nat.reduceSub, Nat.reduceDiv, Int.reduceToNat, Int.reduceAdd, Int.reduceSub, Int.reduceMul, Int.reduceNeg, Int.reduceEq, Int.reduceLT, Int.reduceLE]; with_reducible rfl) rfl ?_)
      | (with_reducible refine k_condP (by simp only [GA, Nat.reduceEqDiff, ↓reduceIte]; rfl) (by first | (simp only [BO]; rfl) | rfl) (fun ht => ?_) (fun ht => ?_) <;> try (first | exact False.elim ht | exact absurd rfl ht | exact absurd trivial ht | exact Bool.noConfusion ht))
      | (with_reducible refine k_ret ?_; repeat with_reducible (first | refine ret_thru ?_ | refine ret_blk ?_ | refine fin ?_))
      | (with_reducible refine k_exit ?_; repeat with_reducible (first | refine thru ?_ | refine out_blk ?_ | refine pass (by decide) ?_))
      | (refine post1 ?_; simp only [GA, Nat.reduceEqDiff, ↓reduceIte])
      | (refine post2 ?_; simp only [GA, Nat.reduceEqDiff, ↓reduceIte])
      | (refine post3 ?_; simp only [GA, Nat.reduceEqDiff, ↓reduceIte])
      | (refine postc (by simp only [GA, Nat.reduceEqDiff, ↓reduceIte]; rfl) (by simp (disch := omega) only [hlt', g, c55r0, c55r1, c55r2, c55r3, c55r4, c55r5, c55r6, c55r7, c55r9, EV0, EV1, EV2, EV3, EV4, EV5, EV6, EV7, EV8, VALS, plug, ite_same, decide_true, decide_false, eq_self, ↓reduceIte, reduceCtorEq, Nat.reduceAdd, Nat.reduceEqDiff, Nat.reduceLT, Nat.reduceLeDiff, Nat.reduceMul, Nat.reduceSub, Nat.reduceDiv, Int.reduceToNat, Int.reduceAdd, Int.reduceSub, Int.reduceMul, Int.reduceNeg, Int.reduceEq, Int.reduceLT, Int.reduceLE]; rfl) ?_)
      | refine post0 ?_
    exact ⟨hlt, (), (by simp only [Am.keep, List.map_cons, List.map_nil, GA, Nat.reduceEqDiff, ↓reduceIte]; try rfl), trivial⟩
  · obtain rfl : k = r.length := by omega
    have hlt' : ¬ (r.length : Int) < r.length := by omega
    repeat' first
      | with_reducible refine k_seq ?_
      | with_reducible refine k_skip ?_
      | with_reducible refine k_blkS ?_
      | with_reducible refine k_blkR ?_
      | with_reducible refine k_blkC ?_
      | with_reducible refine k_blkH ?_
      | with_reducible refine k_blkB ?_
      | with_reducible refine k_blkK ?_
      | with_reducible refine k_blkE ?_
      | with_reducible refine k_reg ?_
      | with_reducible refine k_head (by with_unfolding_all rfl) ?_
      | with_reducible refine k_headS ?_
      | (with_reducible refine SepK.mk ?_ ?_; (refine sepQ_P ?_; simp [sepQ, sepG, AOp.late, AOp.free, AOp.xs, AOp.isAl, tokNe, AV.tok, stS_get, strip, AX.val, c55r0, c55r1, c55r2, c55r3, c55r4, c55r5, c55r6, c55r7, c55r9, GA]; try omega))
      | with_reducible refine r_done ?_
      | with_reducible refine hr_done ?_
      | with_reducible refine s_go (by simp (disch := omega) only [hlt', c55r0, c55r1, c55r2, c55r3, c55r4, c55r5, c55r6, c55r7, c55r9, EV0, EV1, EV2, EV3, EV4, EV5, EV6, EV7, EV8, VALS, plug, ite_same, decide_true, decide_false, eq_self, ↓reduceIte, reduceCtorEq, Nat.reduceAdd, Nat.reduceEqDiff, Nat.reduceLT, Nat.reduceLeDiff, Nat.reduceMul, Nat.reduceSub, Nat.reduceDiv, Int.reduceToNat, Int.reduceAdd, Int.reduceSub, Int.reduceMul, Int.reduceNeg, Int.reduceEq, Int.reduceLT, Int.reduceLE]; with_reducible rfl) ?_
      | with_reducible refine h_go (by with_unfolding_all rfl) (by simp (disch := omega) only [hlt', c55r0, c55r1, c55r2, c55r3, c55r4, c55r5, c55r6, c55r7, c55r9, EV0, EV1, EV2, EV3, EV4, EV5, EV6, EV7, EV8, VALS, plug, ite_same, decide_true, decide_false, eq_self, ↓reduceIte, reduceCtorEq, Nat.reduceAdd, Nat.reduceEqDiff, Nat.reduceLT, Nat.reduceLeDiff, Nat.reduceMul, Nat.reduceSub, Nat.reduceDiv, Int.reduceToNat, Int.reduceAdd, Int.reduceSub, Int.reduceMul, Int.reduceNeg, Int.reduceEq, Int.reduceLT, Int.reduceLE]; with_reducible rfl) ?_
      | ((with_reducible refine chk_r ?_); refine r_callF (by simp only [CA, Nat.reduceEqDiff, ↓reduceIte]; rfl) (by exact rfl) (by simp only [CA, Nat.reduceEqDiff, ↓reduceIte]; rfl) rfl ?_)
      | ((with_reducible refine chk_h ?_); refine hr_callF (by simp only [CA, Nat.reduceEqDiff, ↓reduceIte]; rfl) (by exact rfl) (by simp only [CA, Nat.reduceEqDiff, ↓reduceIte]; rfl) rfl ?_)
      | ((with_reducible refine chk_h ?_); refine hr_app (by simp (disch := omega) only [hlt', c55r0, c55r1, c55r2, c55r3, c55r4, c55r5, c55r6, c55r7, c55r9, EV0, EV1, EV2, EV3, EV4, EV5, EV6, EV7, EV8, VALS, plug, ite_same, decide_true, decide_false, eq_self, ↓reduceIte, reduceCtorEq, Nat.reduceAdd, Nat.reduceEqDiff, Nat.reduceLT, Nat.reduceLeDiff, Nat.reduceMul, Nat.reduceSub, Nat.reduceDiv, Int.reduceToNat, Int.reduceAdd, Int.reduceSub, Int.reduceMul, Int.reduceNeg, Int.reduceEq, Int.reduceLT, Int.reduceLE]; with_reducible rfl) rfl ?_)
      | (with_reducible refine k_condP (by simp only [GA, Nat.reduceEqDiff, ↓reduceIte]; rfl) (by first | (simp only [BO]; rfl) | rfl) (fun ht => ?_) (fun ht => ?_) <;> try (first | exact False.elim ht | exact absurd rfl ht | exact absurd trivial ht | exact Bool.noConfusion ht))
      | (with_reducible refine k_ret ?_; repeat with_reducible (first | refine ret_thru ?_ | refine ret_blk ?_ | refine fin ?_))
      | (with_reducible refine k_exit ?_; repeat with_reducible (first | refine thru ?_ | refine out_blk ?_ | refine pass (by decide) ?_))
      | (refine post1 ?_; simp only [GA, Nat.reduceEqDiff, ↓reduceIte])
      | (refine post2 ?_; simp only [GA, Nat.reduceEqDiff, ↓reduceIte])
      | (refine post3 ?_; simp only [GA, Nat.reduceEqDiff, ↓reduceIte])
      | (refine postc (by simp only [GA, Nat.reduceEqDiff, ↓reduceIte]; rfl) (by simp (disch := omega) only [hlt', c55r0, c55r1, c55r2, c55r3, c55r4, c55r5, c55r6, c55r7, c55r9, EV0, EV1, EV2, EV3, EV4, EV5, EV6, EV7, EV8, VALS, plug, ite_same, decide_true, decide_false, eq_self, ↓reduceIte, reduceCtorEq, Nat.reduceAdd, Nat.reduceEqDiff, Nat.reduceLT, Nat.reduceLeDiff, Nat.reduceMul, Nat.reduceSub, Nat.reduceDiv, Int.reduceToNat, Int.reduceAdd, Int.reduceSub, Int.reduceMul, Int.reduceNeg, Int.reduceEq, Int.reduceLT, Int.reduceLE]; rfl) ?_)
      | refine post0 ?_
    all_goals first | exact ends_of | exact ends_eq rfl
theorem pc22 (rows : List (List Nat)) (hn : rows.length ≤ 9223372036854775807) (hr : ∀ i, i < rows.length → (rows.getD i []).length ≤ 9223372036854775807) : PC Try.prog 22 [vRows rows, vRows rows] (.b true) := by
  refine pc_fn fn22 (by simp only [AV.plains, AV.plain, il_plain, bl_plain, Bool.and_true, Bool.true_and, Bool.and_self, rows_plain]) (by simp only [AV.plains, AV.plain, il_plain, bl_plain, Bool.and_true, Bool.true_and, Bool.and_self, rows_plain]) (Nat.le_of_ble_eq_true rfl) ?_
  rw [initSt2]
  repeat' first
    | with_reducible refine k_seq ?_
    | with_reducible refine k_skip ?_
    | with_reducible refine k_blkS ?_
    | with_reducible refine k_blkR ?_
    | with_reducible refine k_blkC ?_
    | with_reducible refine k_blkH ?_
    | with_reducible refine k_blkB ?_
    | with_reducible refine k_blkK ?_
    | with_reducible refine k_blkE ?_
    | with_reducible refine k_reg ?_
    | with_reducible refine k_head (by with_unfolding_all rfl) ?_
    | with_reducible refine k_headS ?_
    | (with_reducible refine SepK.mk ?_ ?_; (refine sepQ_P ?_; simp [sepQ, sepG, AOp.late, AOp.free, AOp.xs, AOp.isAl, tokNe, AV.tok, stS_get, strip, AX.val, c22r0, c22r1, c22r2, c22r3, c22r4, c22r5, c22r6, c22r7, c22r9, GA]; try omega))
    | with_reducible refine r_done ?_
    | with_reducible refine hr_done ?_
    | with_reducible refine s_go (by simp (disch := omega) only [c22r0, c22r1, c22r2, c22r3, c22r4, c22r5, c22r6, c22r7, c22r9, EV0, EV1, EV2, EV3, EV4, EV5, EV6, EV7, EV8, VALS, plug, ite_same, decide_true, decide_false, eq_self, ↓reduceIte, reduceCtorEq, Nat.reduceAdd, Nat.reduceEqDiff, Nat.reduceLT, Nat.reduceLeDiff, Nat.reduceMul, Nat.reduceSub, Nat.reduceDiv, Int.reduceToNat, Int.reduceAdd, Int.reduceSub, Int.reduceMul, Int.reduceNeg, Int.reduceEq, Int.reduceLT, Int.reduceLE]; with_reducible rfl) ?_
    | with_reducible refine h_go (by with_unfolding_all rfl) (by simp (disch := omega) only [c22r0, c22r1, c22r2, c22r3, c22r4, c22r5, c22r6, c22r7, c22r9, EV0, EV1, EV2, EV3, EV4, EV5, EV6, EV7, EV8, VALS, plug, ite_same, decide_true, decide_false, eq_self, ↓reduceIte, reduceCtorEq, Nat.reduceAdd, Nat.reduceEqDiff, Nat.reduceLT, Nat.reduceLeDiff, Nat.reduceMul, Nat.reduceSub, Nat.reduceDiv, Int.reduceToNat, Int.reduceAdd, Int.reduceSub, Int.reduceMul, Int.reduceNeg, Int.reduceEq, Int.reduceLT, Int.reduceLE]; with_reducible rfl) ?_
    | ((with_reducible refine chk_r ?_); refine r_callF (by simp only [CA, Nat.reduceEqDiff, ↓reduceIte]; rfl) (by exact rfl) (by simp only [CA, Nat.reduceEqDiff, ↓reduceIte]; rfl) rfl ?_)
    | ((with_reducible refine chk_h ?_); refine hr_callF (by simp only [CA, Nat.reduceEqDiff, ↓reduceIte]; rfl) (by exact rfl) (by simp only [CA, Nat.reduceEqDiff, ↓reduceIte]; rfl) rfl ?_)
    | ((with_reducible refine chk_h ?_); refine hr_app (by simp (disch := omega) only [c22r0, c22r1, c22r2, c22r3, c22r4, c22r5, c22r6, c22r7, c22r9, EV0, EV1, EV2, EV3, EV4, EV5, EV6, EV7, EV8, VALS, plug, ite_same, decide_true, decide_false, eq_self, ↓reduceIte, reduceCtorEq, Nat.reduceAdd, Nat.reduceEqDiff, Nat.reduceLT, Nat.reduceLeDiff, Nat.reduceMul, Nat.reduceSub, Nat.reduceDiv, Int.reduceToNat, Int.reduceAdd, Int.reduceSub, Int.reduceMul, Int.reduceNeg, Int.reduceEq, Int.reduceLT, Int.reduceLE]; with_reducible rfl) rfl ?_)
    | (with_reducible refine k_condP (by simp only [GA, Nat.reduceEqDiff, ↓reduceIte]; rfl) (by first | (simp only [BO]; rfl) | rfl) (fun ht => ?_) (fun ht => ?_) <;> try (first | exact False.elim ht | exact absurd rfl ht | exact absurd trivial ht | exact Bool.noConfusion ht))
    | (with_reducible refine k_ret ?_; repeat with_reducible (first | refine ret_thru ?_ | refine ret_blk ?_ | refine fin ?_))
    | (with_reducible refine k_exit ?_; repeat with_reducible (first | refine thru ?_ | refine out_blk ?_ | refine pass (by decide) ?_))
    | (refine post1 ?_; simp only [GA, Nat.reduceEqDiff, ↓reduceIte])
    | (refine post2 ?_; simp only [GA, Nat.reduceEqDiff, ↓reduceIte])
    | (refine post3 ?_; simp only [GA, Nat.reduceEqDiff, ↓reduceIte])
    | (refine postc (by simp only [GA, Nat.reduceEqDiff, ↓reduceIte]; rfl) (by simp (disch := omega) only [c22r0, c22r1, c22r2, c22r3, c22r4, c22r5, c22r6, c22r7, c22r9, EV0, EV1, EV2, EV3, EV4, EV5, EV6, EV7, EV8, VALS, plug, ite_same, decide_true, decide_false, eq_self, ↓reduceIte, reduceCtorEq, Nat.reduceAdd, Nat.reduceEqDiff, Nat.reduceLT, Nat.reduceLeDiff, Nat.reduceMul, Nat.reduceSub, Nat.reduceDiv, Int.reduceToNat, Int.reduceAdd, Int.reduceSub, Int.reduceMul, Int.reduceNeg, Int.reduceEq, Int.reduceLT, Int.reduceLE]; rfl) ?_)
    | refine post0 ?_
  refine k_blk (k_loopS (X := Unit) [0, 1, 5] rows.length (fun k _ => [(0, vRows rows), (1, vRows rows), (5, .i .i64 (k : Int))]) (fun k _ h => True) () (by simp only [Am.keep, List.map_cons, List.map_nil, GA, Nat.reduceEqDiff, ↓reduceIte]; try rfl) trivial ?_)
  rintro k _ h hk - ok pos
  by_cases hlt : k < rows.length
  · have hlt' : (k : Int) < rows.length := by omega
    have g := rvN_get hlt
    have q := pc55 (rows.getD k []) (hr k hlt)
    repeat' first
      | with_reducible refine k_seq ?_
      | with_reducible refine k_skip ?_
      | with_reducible refine k_blkS ?_
      | with_reducible refine k_blkR ?_
      | with_reducible refine k_blkC ?_
      | with_reducible refine k_blkH ?_
      | with_reducible refine k_blkB ?_
      | with_reducible refine k_blkK ?_
      | with_reducible refine k_blkE ?_
      | with_reducible refine k_reg ?_
      | with_reducible refine k_head (by with_unfolding_all rfl) ?_
      | with_reducible refine k_headS ?_
      | (with_reducible refine SepK.mk ?_ ?_; (refine sepQ_P ?_; simp [sepQ, sepG, AOp.late, AOp.free, AOp.xs, AOp.isAl, tokNe, AV.tok, stS_get, strip, AX.val, c22r0, c22r1, c22r2, c22r3, c22r4, c22r5, c22r6, c22r7, c22r9, GA]; try omega))
      | with_reducible refine r_done ?_
      | with_reducible refine hr_done ?_
      | with_reducible refine s_go (by simp (disch := omega) only [hlt', g, c22r0, c22r1, c22r2, c22r3, c22r4, c22r5, c22r6, c22r7, c22r9, EV0, EV1, EV2, EV3, EV4, EV5, EV6, EV7, EV8, VALS, plug, ite_same, decide_true, decide_false, eq_self, ↓reduceIte, reduceCtorEq, Nat.reduceAdd, Nat.reduceEqDiff, Nat.reduceLT, Nat.reduceLeDiff, Nat.reduceMul, Nat.reduceSub, Nat.reduceDiv, Int.reduceToNat, Int.reduceAdd, Int.reduceSub, Int.reduceMul, Int.reduceNeg, Int.reduceEq, Int.reduceLT, Int.reduceLE]; with_reducible rfl) ?_
      | with_reducible refine h_go (by with_unfolding_all rfl) (by simp (disch := omega) only [hlt', g, c22r0, c22r1, c22r2, c22r3, c22r4, c22r5, c22r6, c22r7, c22r9, EV0, EV1, EV2, EV3, EV4, EV5, EV6, EV7, EV8, VALS, plug, ite_same, decide_true, decide_false, eq_self, ↓reduceIte, reduceCtorEq, Nat.reduceAdd, Nat.reduceEqDiff, Nat.reduceLT, Nat.reduceLeDiff, Nat.reduceMul, Nat.reduceSub, Nat.reduceDiv, Int.reduceToNat, Int.reduceAdd, Int.reduceSub, Int.reduceMul, Int.reduceNeg, Int.reduceEq, Int.reduceLT, Int.reduceLE]; with_reducible rfl) ?_
      | ((with_reducible refine chk_r ?_); refine r_callF (by simp only [CA, Nat.reduceEqDiff, ↓reduceIte]; rfl) (by exact rfl) (by simp only [CA, Nat.reduceEqDiff, ↓reduceIte]; rfl) rfl ?_)
      | ((with_reducible refine chk_h ?_); refine hr_callF (by simp only [CA, Nat.reduceEqDiff, ↓reduceIte]; rfl) (by exact rfl) (by simp only [CA, Nat.reduceEqDiff, ↓reduceIte]; rfl) rfl ?_)
      | ((with_reducible refine chk_r ?_); refine r_callP (by simp only [CA, Nat.reduceEqDiff, ↓reduceIte]; rfl) (by simp only [CA, Nat.reduceEqDiff, ↓reduceIte]; rfl) (by first | exact q _) rfl ?_)
      | ((with_reducible refine chk_h ?_); refine hr_callP (by simp only [CA, Nat.reduceEqDiff, ↓reduceIte]; rfl) (by simp only [CA, Nat.reduceEqDiff, ↓reduceIte]; rfl) (by first | exact q _) rfl ?_)
      | ((with_reducible refine chk_h ?_); refine hr_callP1 (by simp only [CA, Nat.reduceEqDiff, ↓reduceIte]; rfl) (by simp only [CA, Nat.reduceEqDiff, ↓reduceIte]; rfl) (by simp (disch := omega) only [CA, Nat.reduceEqDiff, ↓reduceIte, firstTok_nil, firstTok_sl, firstTok_sl0, firstTok_i, firstTok_b, firstTok_ag, firstTok_p, firstTok_s]; rfl) (by first | exact q _) rfl ?_)
      | ((with_reducible refine chk_h ?_); refine hr_app (by simp (disch := omega) only [hlt', g, c22r0, c22r1, c22r2, c22r3, c22r4, c22r5, c22r6, c22r7, c22r9, EV0, EV1, EV2, EV3, EV4, EV5, EV6, EV7, EV8, VALS, plug, ite_same, decide_true, decide_false, eq_self, ↓reduceIte, reduceCtorEq, Nat.reduceAdd, Nat.reduceEqDiff, Nat.reduceLT, Nat.reduceLeDiff, Nat.reduceMul, Nat.reduceSub, Nat.reduceDiv, Int.reduceToNat, Int.reduceAdd, Int.reduceSub, Int.reduceMul, Int.reduceNeg, Int.reduceEq, Int.reduceLT, Int.reduceLE]; with_reducible rfl) rfl ?_)
      | (with_reducible refine k_condP (by simp only [GA, Nat.reduceEqDiff, ↓reduceIte]; rfl) (by first | (simp only [BO]; rfl) | rfl) (fun ht => ?_) (fun ht => ?_) <;> try (first | exact False.elim ht | exact absurd rfl ht | exact absurd trivial ht | exact Bool.noConfusion ht))
      | (with_reducible refine k_ret ?_; repeat with_reducible (first | refine ret_thru ?_ | refine ret_blk ?_ | refine fin ?_))
      | (with_reducible refine k_exit ?_; repeat with_reducible (first | refine thru ?_ | refine out_blk ?_ | refine pass (by decide) ?_))
      | (refine post1 ?_; simp only [GA, Nat.reduceEqDiff, ↓reduceIte])
      | (refine post2 ?_; simp only [GA, Nat.reduceEqDiff, ↓reduceIte])
      | (refine post3 ?_; simp only [GA, Nat.reduceEqDiff, ↓reduceIte])
      | (refine postc (by simp only [GA, Nat.reduceEqDiff, ↓reduceIte]; rfl) (by simp (disch := omega) only [hlt', g, c22r0, c22r1, c22r2, c22r3, c22r4, c22r5, c22r6, c22r7, c22r9, EV0, EV1, EV2, EV3, EV4, EV5, EV6, EV7, EV8, VALS, plug, ite_same, decide_true, decide_false, eq_self, ↓reduceIte, reduceCtorEq, Nat.reduceAdd, Nat.reduceEqDiff, Nat.reduceLT, Nat.reduceLeDiff, Nat.reduceMul, Nat.reduceSub, Nat.reduceDiv, Int.reduceToNat, Int.reduceAdd, Int.reduceSub, Int.reduceMul, Int.reduceNeg, Int.reduceEq, Int.reduceLT, Int.reduceLE]; rfl) ?_)
      | refine post0 ?_
    exact ⟨hlt, (), (by simp only [Am.keep, List.map_cons, List.map_nil, GA, Nat.reduceEqDiff, ↓reduceIte]; try rfl), trivial⟩
  · obtain rfl : k = rows.length := by omega
    have hlt' : ¬ (rows.length : Int) < rows.length := by omega
    repeat' first
      | with_reducible refine k_seq ?_
      | with_reducible refine k_skip ?_
      | with_reducible refine k_blkS ?_
      | with_reducible refine k_blkR ?_
      | with_reducible refine k_blkC ?_
      | with_reducible refine k_blkH ?_
      | with_reducible refine k_blkB ?_
      | with_reducible refine k_blkK ?_
      | with_reducible refine k_blkE ?_
      | with_reducible refine k_reg ?_
      | with_reducible refine k_head (by with_unfolding_all rfl) ?_
      | with_reducible refine k_headS ?_
      | (with_reducible refine SepK.mk ?_ ?_; (refine sepQ_P ?_; simp [sepQ, sepG, AOp.late, AOp.free, AOp.xs, AOp.isAl, tokNe, AV.tok, stS_get, strip, AX.val, c22r0, c22r1, c22r2, c22r3, c22r4, c22r5, c22r6, c22r7, c22r9, GA]; try omega))
      | with_reducible refine r_done ?_
      | with_reducible refine hr_done ?_
      | with_reducible refine s_go (by simp (disch := omega) only [hlt', c22r0, c22r1, c22r2, c22r3, c22r4, c22r5, c22r6, c22r7, c22r9, EV0, EV1, EV2, EV3, EV4, EV5, EV6, EV7, EV8, VALS, plug, ite_same, decide_true, decide_false, eq_self, ↓reduceIte, reduceCtorEq, Nat.reduceAdd, Nat.reduceEqDiff, Nat.reduceLT, Nat.reduceLeDiff, Nat.reduceMul, Nat.reduceSub, Nat.reduceDiv, Int.reduceToNat, Int.reduceAdd, Int.reduceSub, Int.reduceMul, Int.reduceNeg, Int.reduceEq, Int.reduceLT, Int.reduceLE]; with_reducible rfl) ?_
      | with_reducible refine h_go (by with_unfolding_all rfl) (by simp (disch := omega) only [hlt', c22r0, c22r1, c22r2, c22r3, c22r4, c22r5, c22r6, c22r7, c22r9, EV0, EV1, EV2, EV3, EV4, EV5, EV6, EV7, EV8, VALS, plug, ite_same, decide_true, decide_false, eq_self, ↓reduceIte, reduceCtorEq, Nat.reduceAdd, Nat.reduceEqDiff, Nat.reduceLT, Nat.reduceLeDiff, Nat.reduceMul, Nat.reduceSub, Nat.reduceDiv, Int.reduceToNat, Int.reduceAdd, Int.reduceSub, Int.reduceMul, Int.reduceNeg, Int.reduceEq, Int.reduceLT, Int.reduceLE]; with_reducible rfl) ?_
      | ((with_reducible refine chk_r ?_); refine r_callF (by simp only [CA, Nat.reduceEqDiff, ↓reduceIte]; rfl) (by exact rfl) (by simp only [CA, Nat.reduceEqDiff, ↓reduceIte]; rfl) rfl ?_)
      | ((with_reducible refine chk_h ?_); refine hr_callF (by simp only [CA, Nat.reduceEqDiff, ↓reduceIte]; rfl) (by exact rfl) (by simp only [CA, Nat.reduceEqDiff, ↓reduceIte]; rfl) rfl ?_)
      | ((with_reducible refine chk_h ?_); refine hr_app (by simp (disch := omega) only [hlt', c22r0, c22r1, c22r2, c22r3, c22r4, c22r5, c22r6, c22r7, c22r9, EV0, EV1, EV2, EV3, EV4, EV5, EV6, EV7, EV8, VALS, plug, ite_same, decide_true, decide_false, eq_self, ↓reduceIte, reduceCtorEq, Nat.reduceAdd, Nat.reduceEqDiff, Nat.reduceLT, Nat.reduceLeDiff, Nat.reduceMul, Nat.reduceSub, Nat.reduceDiv, Int.reduceToNat, Int.reduceAdd, Int.reduceSub, Int.reduceMul, Int.reduceNeg, Int.reduceEq, Int.reduceLT, Int.reduceLE]; with_reducible rfl) rfl ?_)
      | (with_reducible refine k_condP (by simp only [GA, Nat.reduceEqDiff, ↓reduceIte]; rfl) (by first | (simp only [BO]; rfl) | rfl) (fun ht => ?_) (fun ht => ?_) <;> try (first | exact False.elim ht | exact absurd rfl ht | exact absurd trivial ht | exact Bool.noConfusion ht))
      | (with_reducible refine k_ret ?_; repeat with_reducible (first | refine ret_thru ?_ | refine ret_blk ?_ | refine fin ?_))
      | (with_reducible refine k_exit ?_; repeat with_reducible (first | refine thru ?_ | refine out_blk ?_ | refine pass (by decide) ?_))
      | (refine post1 ?_; simp only [GA, Nat.reduceEqDiff, ↓reduceIte])
      | (refine post2 ?_; simp only [GA, Nat.reduceEqDiff, ↓reduceIte])
      | (refine post3 ?_; simp only [GA, Nat.reduceEqDiff, ↓reduceIte])
      | (refine postc (by simp only [GA, Nat.reduceEqDiff, ↓reduceIte]; rfl) (by simp (disch := omega) only [hlt', c22r0, c22r1, c22r2, c22r3, c22r4, c22r5, c22r6, c22r7, c22r9, EV0, EV1, EV2, EV3, EV4, EV5, EV6, EV7, EV8, VALS, plug, ite_same, decide_true, decide_false, eq_self, ↓reduceIte, reduceCtorEq, Nat.reduceAdd, Nat.reduceEqDiff, Nat.reduceLT, Nat.reduceLeDiff, Nat.reduceMul, Nat.reduceSub, Nat.reduceDiv, Int.reduceToNat, Int.reduceAdd, Int.reduceSub, Int.reduceMul, Int.reduceNeg, Int.reduceEq, Int.reduceLT, Int.reduceLE]; rfl) ?_)
      | refine post0 ?_
    all_goals first | exact ends_of | exact ends_eq rfl
end Go.Proofs.Ytjncfpfgobojpaa
set_option linter.unusedVariables false
set_option linter.unusedSimpArgs false
namespace Go.Proofs.Ytjncfpfgobojpaa
open Go Go.Am Go.Proofs Go.Sort
/-! ### The document's Fewest -/
abbrev eK (p : Int × Int) : AV := .ag [.i .i64 p.1, .i .i64 p.2]
theorem kq_K (a b : Int × Int) : kq (some [0, 0]) (eK a) (eK b) = some (decide (a = b)) := by
  obtain ⟨a1, a2⟩ := a
  obtain ⟨b1, b2⟩ := b
  simp [kq, aeq, Prod.mk.injEq]
/-- those that are reckoned ahead of (D, G) -/
def dn (D G : Nat) (d g : Int) : Prop := 0 ≤ d ∧ 0 ≤ g ∧ g ≤ 9 ∧ (d < D ∨ (d = D ∧ g < G))
open Classical in
noncomputable def bst (l : List B) (D G : Nat) : Int × Int → Option AV := fun p => if dn D G p.1 p.2 ∧ prs l p.1 p.2 then some (.i .i64 (ap l p.1 p.2)) else none
theorem ite_iff {α : Type} {p q : Prop} {ip : Decidable p} {iq : Decidable q} {x y : α} (h : p ↔ q) : (if p then x else y) = if q then x else y := by
  by_cases hp : p
  · rw [if_pos hp, if_pos (h.1 hp)]
  · rw [if_neg hp, if_neg fun hq => hp (h.2 hq)]
theorem bst_zero (l : List B) : (fun _ => none) = bst l 0 0 := funext fun p => by
  unfold bst dn
  rw [if_neg (by omega)]
theorem bst_get {l : List B} {D G d : Nat} {g : Int} (hd : d < D) (hg : 0 ≤ g ∧ g ≤ 9) : (bst l D G ((d : Int), g)).getD (.i .i64 0) = .i .i64 (ap l d g) := by
  unfold bst
  by_cases hp : prs l d g
  · rw [if_pos ⟨by unfold dn; simp only; omega, hp⟩]; rfl
  · rw [if_neg fun h => hp h.2, ap_none hp]; rfl
theorem bst_no {l : List B} {D G : Nat} (hp : ¬ prs l D G) : bst l D G = bst l D (G + 1) := funext fun p => by
  unfold bst
  by_cases e : p.1 = D ∧ p.2 = G
  · rw [if_neg (by rw [e.1, e.2]; exact fun h => hp h.2), if_neg (by rw [e.1, e.2]; exact fun h => hp h.2)]
  · have : dn D G p.1 p.2 ↔ dn D (G + 1) p.1 p.2 := by unfold dn; omega
    exact ite_iff (and_congr this Iff.rfl)
theorem bst_yes {l : List B} {D G : Nat} (hG : G ≤ 9) (hp : prs l D G) : (fun b => if b = ((D : Int), (G : Int)) then some (.i .i64 ((ap l D G : Nat) : Int)) else bst l D G b) = bst l D (G + 1) := funext fun p => by
  obtain ⟨d, g⟩ := p
  unfold bst
  simp only [Prod.mk.injEq]
  by_cases e : d = D ∧ g = G
  · rw [if_pos e, e.1, e.2, if_pos ⟨by unfold dn; omega, hp⟩]
  · rw [if_neg e]
    have : dn D G d g ↔ dn D (G + 1) d g := by unfold dn; omega
    exact ite_iff (and_congr this Iff.rfl)
theorem bst_row (l : List B) (D : Nat) : bst l D 10 = bst l (D + 1) 0 := funext fun p => by
  unfold bst
  have : dn D 10 p.1 p.2 ↔ dn (D + 1) 0 p.1 p.2 := by unfold dn; omega
  exact ite_iff (and_congr this Iff.rfl)
theorem prs_rng {l : List B} (hv : VL l) {d g : Int} (h : prs l d g) : (0 ≤ d ∧ d ≤ 9) ∧ 0 ≤ g ∧ g ≤ 9 := by
  obtain ⟨i, hi, rfl, rfl⟩ := h
  have := vb_len (hv.b hi)
  omega
/-- the most so far -/
structure MO (l : List B) (D G : Nat) (m : Int) : Prop where
  rng : 0 ≤ m ∧ m ≤ (rowsL l).length
  top : ∀ d g, dn D G d g → prs l d g → (ap l d g : Int) ≤ m
theorem MO.zero (l : List B) : MO l 0 0 0 := ⟨by omega, fun d g h => by unfold dn at h; omega⟩
theorem MO.no {l : List B} {D G : Nat} {m : Int} (M : MO l D G m) (hp : ¬ prs l D G) : MO l D (G + 1) m := ⟨M.rng, fun d g h h2 => by
  by_cases e : d = D ∧ g = G
  · obtain ⟨rfl, rfl⟩ := e; exact absurd h2 hp
  · exact M.top d g (by unfold dn at *; omega) h2⟩
theorem MO.yes {l : List B} {D G : Nat} {m : Int} (M : MO l D G m) : MO l D (G + 1) (max m (ap l D G)) := ⟨by
  have := ap_rows (l := l) D G
  have := M.rng
  omega, fun d g h h2 => by
  by_cases e : d = D ∧ g = G
  · obtain ⟨rfl, rfl⟩ := e; omega
  · have := M.top d g (by unfold dn at *; omega) h2
    omega⟩
theorem MO.row {l : List B} {D : Nat} {m : Int} (M : MO l D 10 m) : MO l (D + 1) 0 m := ⟨M.rng, fun d g h h2 => M.top d g (by unfold dn at *; omega) h2⟩
theorem MO.all {l : List B} (hv : VL l) {m : Int} (M : MO l 10 0 m) : m = (rowsL l).length := by
  have r := M.rng
  rcases ap_top l with h | ⟨d, g, h1, h2⟩
  · omega
  · have := prs_rng hv h1
    have := M.top d g (by unfold dn; omega) h1
    omega
/-- the greatest, of those with d < e, or d = e and g < c -/
structure NO (l : List B) (D G e : Nat) (c : Int) (n : Int) : Prop where
  rng : 1 ≤ n ∧ n ≤ ap l D G
  top : ∀ d g : Int, 0 ≤ d → (G : Int) < g → g ≤ 9 → (d < e ∨ (d = e ∧ g < c)) → (ap l d g : Int) + 1 ≤ n
theorem NO.zero {l : List B} {D G : Nat} (hp : prs l D G) : NO l D G 0 (G + 1) 1 := ⟨by have := ap_pos hp; omega, fun d g h1 h2 h3 h4 => by omega⟩
theorem NO.step {l : List B} {D G e : Nat} (hp : prs l D G) (he : e < D) {c n : Int} (hc : (G : Int) < c ∧ c ≤ 9) (N : NO l D G e c n) : NO l D G e (c + 1) (max n (ap l e c + 1)) := ⟨by
  have := N.rng
  have := ap_lt (d' := (e : Int)) (g' := c) hp (by omega) hc.1
  omega, fun d g h1 h2 h3 h4 => by
  by_cases q : d = e ∧ g = c
  · obtain ⟨rfl, rfl⟩ := q; omega
  · have := N.top d g h1 h2 h3 (by omega)
    omega⟩
theorem NO.row {l : List B} {D G e : Nat} {n : Int} (N : NO l D G e 10 n) : NO l D G (e + 1) (G + 1) n := ⟨N.rng, fun d g h1 h2 h3 h4 => N.top d g h1 h2 h3 (by omega)⟩
theorem NO.all {l : List B} (hv : VL l) {D G : Nat} (hp : prs l D G) {n : Int} (N : NO l D G D (G + 1) n) : n = ap l D G := by
  have r := N.rng
  rcases ap_ex hp with h | ⟨d', g', h1, h2, h3, h4⟩
  · omega
  · have := prs_rng hv h1
    have := N.top d' g' (by omega) (by omega) (by omega) (.inl (by omega))
    omega
/-- there among the first k -/
def prk (l : List B) (D G : Nat) (k : Nat) : Prop := ∃ i, i < k ∧ (bD l i).dark = D ∧ (bD l i).grain = G
open Classical in
noncomputable def pz (l : List B) (D G : Nat) (k : Nat) : Int := if prk l D G k then 1 else 0
theorem prk_succ {l : List B} {D G k : Nat} : prk l D G (k + 1) ↔ prk l D G k ∨ ((bD l k).dark = D ∧ (bD l k).grain = G) := by
  constructor
  · rintro ⟨i, hi, h⟩
    by_cases e : i = k
    · subst e; exact .inr h
    · exact .inl ⟨i, by omega, h⟩
  · rintro (⟨i, hi, h⟩ | h)
    · exact ⟨i, by omega, h⟩
    · exact ⟨k, by omega, h⟩
theorem pz_zero (l : List B) (D G : Nat) : pz l D G 0 = 0 := by unfold pz; rw [if_neg]; rintro ⟨i, hi, _⟩; omega
theorem pz_no {l : List B} {D G k : Nat} (h : ¬ ((bD l k).dark = D ∧ (bD l k).grain = G)) : pz l D G (k + 1) = pz l D G k := by
  unfold pz
  rw [show prk l D G (k + 1) = prk l D G k from propext ⟨fun q => (prk_succ.1 q).resolve_right h, fun q => prk_succ.2 (.inl q)⟩]
theorem pz_yes {l : List B} {D G k : Nat} (h : (bD l k).dark = D ∧ (bD l k).grain = G) : pz l D G (k + 1) = 1 := by
  unfold pz; rw [if_pos (prk_succ.2 (.inr h))]
end Go.Proofs.Ytjncfpfgobojpaa
set_option linter.unusedVariables false
set_option linter.unusedSimpArgs false
namespace Go.Proofs.Ytjncfpfgobojpaa
open Go Go.Am Go.Proofs Go.Sort
set_option maxHeartbeats 2000000 in
theorem pc21 (l : List B) (hl : l.length ≤ 9223372036854775807) : PC Try.prog 21 [vB l] (.tu [.i .i64 ((rowsR l).length : Int), .i .i64 (erR l)]) := by
  refine pc_fn fn21 (by simp only [AV.plains, AV.plain, il_plain, bl_plain, Bool.and_true, Bool.true_and, Bool.and_self, flB_plain]) (by simp only [AV.plains, AV.plain, il_plain, bl_plain, Bool.and_true, Bool.true_and, Bool.and_self, flB_plain]) (Nat.le_of_ble_eq_true rfl) ?_
  rw [initSt1]
  have q23 := pc23 l hl
  unfold rowsR erR
  by_cases hv : VL l
  · rw [if_pos hv, if_pos hv]
    rw [vl_t hv] at q23
    have hl6 := hv.len
    have hle := few_le hv
    repeat' first
      | with_reducible refine k_seq ?_
      | with_reducible refine k_skip ?_
      | with_reducible refine k_blkS ?_
      | with_reducible refine k_blkR ?_
      | with_reducible refine k_blkC ?_
      | with_reducible refine k_blkH ?_
      | with_reducible refine k_blkB ?_
      | with_reducible refine k_blkK ?_
      | with_reducible refine k_blkE ?_
      | with_reducible refine k_reg ?_
      | with_reducible refine r_done ?_
      | with_reducible refine s_go (by simp (disch := omega) only [c21r0, c21r1, c21r2, c21r3, c21r4, c21r5, c21r6, c21r7, c21r8, c21r9, c21r10, c21r11, c21r12, c21r13, c21r14, c21r16, c21r17, c21r18, c21r19, c21r20, c21r21, c21r22, c21r24, c21r26, c21r27, c21r28, c21r30, c21r32, EV0, EV1, EV2, EV3, EV4, EV5, EV6, EV7, EV8, VALS, plug, ite_same, decide_true, decide_false, eq_self, ↓reduceIte, reduceCtorEq, Nat.reduceAdd, Nat.reduceEqDiff, Nat.reduceLT, Nat.reduceLeDiff, Nat.reduceMul, Nat.reduceSub, Nat.reduceDiv, Int.reduceToNat, Int.reduceAdd, Int.reduceSub, Int.reduceMul, Int.reduceNeg, Int.reduceEq, Int.reduceLT, Int.reduceLE]; with_reducible rfl) ?_
      | ((with_reducible refine chk_r ?_); refine r_callF (by simp only [CA, Nat.reduceEqDiff, ↓reduceIte]; rfl) (by exact rfl) (by simp only [CA, Nat.reduceEqDiff, ↓reduceIte]; rfl) rfl ?_)
      | ((with_reducible refine chk_r ?_); refine r_callP (by simp only [CA, Nat.reduceEqDiff, ↓reduceIte]; rfl) (by simp only [CA, Nat.reduceEqDiff, ↓reduceIte]; rfl) (by first | exact q23 _) rfl ?_)
      | (with_reducible refine k_condP (by simp only [GA, Nat.reduceEqDiff, ↓reduceIte]; rfl) (by first | (simp only [BO]; rfl) | rfl) (fun ht => ?_) (fun ht => ?_) <;> try (first | exact False.elim ht | exact absurd rfl ht | exact absurd trivial ht | exact Bool.noConfusion ht))
      | (with_reducible refine k_ret ?_; repeat with_reducible (first | refine ret_thru ?_ | refine ret_blk ?_ | refine fin ?_))
      | (with_reducible refine k_exit ?_; repeat with_reducible (first | refine thru ?_ | refine out_blk ?_ | refine pass (by decide) ?_))
      | (refine post1 ?_; simp only [GA, Nat.reduceEqDiff, ↓reduceIte])
      | (refine post2 ?_; simp only [GA, Nat.reduceEqDiff, ↓reduceIte])
      | (refine post3 ?_; simp only [GA, Nat.reduceEqDiff, ↓reduceIte])
      | (refine postc (by simp only [GA, Nat.reduceEqDiff, ↓reduceIte]; rfl) (by simp (disch := omega) only [c21r0, c21r1, c21r2, c21r3, c21r4, c21r5, c21r6, c21r7, c21r8, c21r9, c21r10, c21r11, c21r12, c21r13, c21r14, c21r16, c21r17, c21r18, c21r19, c21r20, c21r21, c21r22, c21r24, c21r26, c21r27, c21r28, c21r30, c21r32, EV0, EV1, EV2, EV3, EV4, EV5, EV6, EV7, EV8, VALS, plug, ite_same, decide_true, decide_false, eq_self, ↓reduceIte, reduceCtorEq, Nat.reduceAdd, Nat.reduceEqDiff, Nat.reduceLT, Nat.reduceLeDiff, Nat.reduceMul, Nat.reduceSub, Nat.reduceDiv, Int.reduceToNat, Int.reduceAdd, Int.reduceSub, Int.reduceMul, Int.reduceNeg, Int.reduceEq, Int.reduceLT, Int.reduceLE]; rfl) ?_)
      | refine post0 ?_
    refine k_blk (k_loopS (X := Nat × List (AV × AV) × Int) [0, 4, 5, 6] 10 (fun D x => [(0, vB l), (4, .i .i64 x.2.2), (5, .mp x.1), (6, .i .i64 (D : Int))])
      (fun D x h => h.m x.1 = some (.map x.2.1) ∧ MF eK x.2.1 (bst l D 0) ∧ MO l D 0 x.2.2) (_, [], 0) (by simp only [Am.keep, List.map_cons, List.map_nil, GA, Nat.reduceEqDiff, ↓reduceIte]; try rfl) ⟨by simp (disch := omega) only [c21r0, c21r1, c21r2, c21r3, c21r4, c21r5, c21r6, c21r7, c21r8, c21r9, c21r10, c21r11, c21r12, c21r13, c21r14, c21r16, c21r17, c21r18, c21r19, c21r20, c21r21, c21r22, c21r24, c21r26, c21r27, c21r28, c21r30, c21r32, EV0, EV1, EV2, EV3, EV4, EV5, EV6, EV7, EV8, VALS, plug, ite_same, decide_true, decide_false, eq_self, ↓reduceIte, reduceCtorEq, Nat.reduceAdd, Nat.reduceEqDiff, Nat.reduceLT, Nat.reduceLeDiff, Nat.reduceMul, Nat.reduceSub, Nat.reduceDiv, Int.reduceToNat, Int.reduceAdd, Int.reduceSub, Int.reduceMul, Int.reduceNeg, Int.reduceEq, Int.reduceLT, Int.reduceLE] <;> rfl, by rw [← bst_zero]; exact MF.nil, MO.zero l⟩ ?_)
    rintro D ⟨t, es, mo⟩ h hD ⟨hm, hf, M⟩ ok pos
    simp only at hm hf M ⊢
    have mr := M.rng
    by_cases Dlt : D < 10
    · have Dlt' : (D : Int) ≤ 9 := by omega
      repeat' first
        | with_reducible refine k_seq ?_
        | with_reducible refine k_skip ?_
        | with_reducible refine k_blkS ?_
        | with_reducible refine k_blkR ?_
        | with_reducible refine k_blkC ?_
        | with_reducible refine k_blkH ?_
        | with_reducible refine k_blkB ?_
        | with_reducible refine k_blkK ?_
        | with_reducible refine k_blkE ?_
        | with_reducible refine k_reg ?_
        | with_reducible refine r_done ?_
        | with_reducible refine s_go (by simp (disch := omega) only [Dlt', c21r0, c21r1, c21r2, c21r3, c21r4, c21r5, c21r6, c21r7, c21r8, c21r9, c21r10, c21r11, c21r12, c21r13, c21r14, c21r16, c21r17, c21r18, c21r19, c21r20, c21r21, c21r22, c21r24, c21r26, c21r27, c21r28, c21r30, c21r32, EV0, EV1, EV2, EV3, EV4, EV5, EV6, EV7, EV8, VALS, plug, ite_same, decide_true, decide_false, eq_self, ↓reduceIte, reduceCtorEq, Nat.reduceAdd, Nat.reduceEqDiff, Nat.reduceLT, Nat.reduceLeDiff, Nat.reduceMul, Nat.reduceSub, Nat.reduceDiv, Int.reduceToNat, Int.reduceAdd, Int.reduceSub, Int.reduceMul, Int.reduceNeg, Int.reduceEq, Int.reduceLT, Int.reduceLE]; with_reducible rfl) ?_
        | ((with_reducible refine chk_r ?_); refine r_callF (by simp only [CA, Nat.reduceEqDiff, ↓reduceIte]; rfl) (by exact rfl) (by simp only [CA, Nat.reduceEqDiff, ↓reduceIte]; rfl) rfl ?_)
        | (with_reducible refine k_condP (by simp only [GA, Nat.reduceEqDiff, ↓reduceIte]; rfl) (by first | (simp only [BO]; rfl) | rfl) (fun ht => ?_) (fun ht => ?_) <;> try (first | exact False.elim ht | exact absurd rfl ht | exact absurd trivial ht | exact Bool.noConfusion ht))
        | (with_reducible refine k_ret ?_; repeat with_reducible (first | refine ret_thru ?_ | refine ret_blk ?_ | refine fin ?_))
        | (with_reducible refine k_exit ?_; repeat with_reducible (first | refine thru ?_ | refine out_blk ?_ | refine pass (by decide) ?_))
        | (refine post1 ?_; simp only [GA, Nat.reduceEqDiff, ↓reduceIte])
        | (refine post2 ?_; simp only [GA, Nat.reduceEqDiff, ↓reduceIte])
        | (refine post3 ?_; simp only [GA, Nat.reduceEqDiff, ↓reduceIte])
        | (refine postc (by simp only [GA, Nat.reduceEqDiff, ↓reduceIte]; rfl) (by simp (disch := omega) only [Dlt', c21r0, c21r1, c21r2, c21r3, c21r4, c21r5, c21r6, c21r7, c21r8, c21r9, c21r10, c21r11, c21r12, c21r13, c21r14, c21r16, c21r17, c21r18, c21r19, c21r20, c21r21, c21r22, c21r24, c21r26, c21r27, c21r28, c21r30, c21r32, EV0, EV1, EV2, EV3, EV4, EV5, EV6, EV7, EV8, VALS, plug, ite_same, decide_true, decide_false, eq_self, ↓reduceIte, reduceCtorEq, Nat.reduceAdd, Nat.reduceEqDiff, Nat.reduceLT, Nat.reduceLeDiff, Nat.reduceMul, Nat.reduceSub, Nat.reduceDiv, Int.reduceToNat, Int.reduceAdd, Int.reduceSub, Int.reduceMul, Int.reduceNeg, Int.reduceEq, Int.reduceLT, Int.reduceLE]; rfl) ?_)
        | refine post0 ?_
      refine k_blk (k_loopS (X := List (AV × AV) × Int) [0, 4, 5, 6, 7] 10 (fun G x => [(0, vB l), (4, .i .i64 x.2), (5, .mp t), (6, .i .i64 (D : Int)), (7, .i .i64 (G : Int))])
        (fun G x h => h.m t = some (.map x.1) ∧ MF eK x.1 (bst l D G) ∧ MO l D G x.2) (es, mo) (by simp only [Am.keep, List.map_cons, List.map_nil, GA, Nat.reduceEqDiff, ↓reduceIte]; try rfl) ⟨by simp (disch := omega) only [hm, c21r0, c21r1, c21r2, c21r3, c21r4, c21r5, c21r6, c21r7, c21r8, c21r9, c21r10, c21r11, c21r12, c21r13, c21r14, c21r16, c21r17, c21r18, c21r19, c21r20, c21r21, c21r22, c21r24, c21r26, c21r27, c21r28, c21r30, c21r32, EV0, EV1, EV2, EV3, EV4, EV5, EV6, EV7, EV8, VALS, plug, ite_same, decide_true, decide_false, eq_self, ↓reduceIte, reduceCtorEq, Nat.reduceAdd, Nat.reduceEqDiff, Nat.reduceLT, Nat.reduceLeDiff, Nat.reduceMul, Nat.reduceSub, Nat.reduceDiv, Int.reduceToNat, Int.reduceAdd, Int.reduceSub, Int.reduceMul, Int.reduceNeg, Int.reduceEq, Int.reduceLT, Int.reduceLE], hf, M⟩ ?_)
      rintro G ⟨es, mo⟩ h hG ⟨hm, hf, M⟩ ok pos
      simp only at hm hf M ⊢
      have mr := M.rng
      have htk := ok.m hm
      by_cases Glt : G < 10
      · have Glt' : (G : Int) ≤ 9 := by omega
        repeat' first
          | with_reducible refine k_seq ?_
          | with_reducible refine k_skip ?_
          | with_reducible refine k_blkS ?_
          | with_reducible refine k_blkR ?_
          | with_reducible refine k_blkC ?_
          | with_reducible refine k_blkH ?_
          | with_reducible refine k_blkB ?_
          | with_reducible refine k_blkK ?_
          | with_reducible refine k_blkE ?_
          | with_reducible refine k_reg ?_
          | with_reducible refine r_done ?_
          | with_reducible refine s_go (by simp (disch := omega) only [Glt', c21r0, c21r1, c21r2, c21r3, c21r4, c21r5, c21r6, c21r7, c21r8, c21r9, c21r10, c21r11, c21r12, c21r13, c21r14, c21r16, c21r17, c21r18, c21r19, c21r20, c21r21, c21r22, c21r24, c21r26, c21r27, c21r28, c21r30, c21r32, EV0, EV1, EV2, EV3, EV4, EV5, EV6, EV7, EV8, VALS, plug, ite_same, decide_true, decide_false, eq_self, ↓reduceIte, reduceCtorEq, Nat.reduceAdd, Nat.reduceEqDiff, Nat.reduceLT, Nat.reduceLeDiff, Nat.reduceMul, Nat.reduceSub, Nat.reduceDiv, Int.reduceToNat, Int.reduceAdd, Int.reduceSub, Int.reduceMul, Int.reduceNeg, Int.reduceEq, Int.reduceLT, Int.reduceLE]; with_reducible rfl) ?_
          | ((with_reducible refine chk_r ?_); refine r_callF (by simp only [CA, Nat.reduceEqDiff, ↓reduceIte]; rfl) (by exact rfl) (by simp only [CA, Nat.reduceEqDiff, ↓reduceIte]; rfl) rfl ?_)
          | (with_reducible refine k_condP (by simp only [GA, Nat.reduceEqDiff, ↓reduceIte]; rfl) (by first | (simp only [BO]; rfl) | rfl) (fun ht => ?_) (fun ht => ?_) <;> try (first | exact False.elim ht | exact absurd rfl ht | exact absurd trivial ht | exact Bool.noConfusion ht))
          | (with_reducible refine k_ret ?_; repeat with_reducible (first | refine ret_thru ?_ | refine ret_blk ?_ | refine fin ?_))
          | (with_reducible refine k_exit ?_; repeat with_reducible (first | refine thru ?_ | refine out_blk ?_ | refine pass (by decide) ?_))
          | (refine post1 ?_; simp only [GA, Nat.reduceEqDiff, ↓reduceIte])
          | (refine post2 ?_; simp only [GA, Nat.reduceEqDiff, ↓reduceIte])
          | (refine post3 ?_; simp only [GA, Nat.reduceEqDiff, ↓reduceIte])
          | (refine postc (by simp only [GA, Nat.reduceEqDiff, ↓reduceIte]; rfl) (by simp (disch := omega) only [Glt', c21r0, c21r1, c21r2, c21r3, c21r4, c21r5, c21r6, c21r7, c21r8, c21r9, c21r10, c21r11, c21r12, c21r13, c21r14, c21r16, c21r17, c21r18, c21r19, c21r20, c21r21, c21r22, c21r24, c21r26, c21r27, c21r28, c21r30, c21r32, EV0, EV1, EV2, EV3, EV4, EV5, EV6, EV7, EV8, VALS, plug, ite_same, decide_true, decide_false, eq_self, ↓reduceIte, reduceCtorEq, Nat.reduceAdd, Nat.reduceEqDiff, Nat.reduceLT, Nat.reduceLeDiff, Nat.reduceMul, Nat.reduceSub, Nat.reduceDiv, Int.reduceToNat, Int.reduceAdd, Int.reduceSub, Int.reduceMul, Int.reduceNeg, Int.reduceEq, Int.reduceLT, Int.reduceLE]; rfl) ?_)
          | refine post0 ?_
        refine k_blk (k_loopS (X := Unit) [0, 4, 5, 6, 7, 8, 9] l.length (fun k _ => [(0, vB l), (4, .i .i64 mo), (5, .mp t), (6, .i .i64 (D : Int)), (7, .i .i64 (G : Int)), (8, .i .i64 (pz l D G k)), (9, .i .i64 (k : Int))])
          (fun k _ h => h.m t = some (.map es)) () (by simp only [Am.keep, List.map_cons, List.map_nil, GA, Nat.reduceEqDiff, ↓reduceIte, pz_zero]; try rfl) (by simp (disch := omega) only [hm, c21r0, c21r1, c21r2, c21r3, c21r4, c21r5, c21r6, c21r7, c21r8, c21r9, c21r10, c21r11, c21r12, c21r13, c21r14, c21r16, c21r17, c21r18, c21r19, c21r20, c21r21, c21r22, c21r24, c21r26, c21r27, c21r28, c21r30, c21r32, EV0, EV1, EV2, EV3, EV4, EV5, EV6, EV7, EV8, VALS, plug, ite_same, decide_true, decide_false, eq_self, ↓reduceIte, reduceCtorEq, Nat.reduceAdd, Nat.reduceEqDiff, Nat.reduceLT, Nat.reduceLeDiff, Nat.reduceMul, Nat.reduceSub, Nat.reduceDiv, Int.reduceToNat, Int.reduceAdd, Int.reduceSub, Int.reduceMul, Int.reduceNeg, Int.reduceEq, Int.reduceLT, Int.reduceLE]) ?_)
        rintro k _ h hk hm ok pos
        have htk := ok.m hm
        by_cases hlt : k < l.length
        · have hlt' : (k : Int) < l.length := by omega
          have g1 := getB1 hlt
          have g2 := getB2 hlt
          by_cases a1 : (bD l k).dark = D
          · have a1' := eq_true a1
            by_cases a2 : (bD l k).grain = G
            · have a2' := eq_true a2
              have e := pz_yes ⟨a1, a2⟩
              repeat' first
                | with_reducible refine k_seq ?_
                | with_reducible refine k_skip ?_
                | with_reducible refine k_blkS ?_
                | with_reducible refine k_blkR ?_
                | with_reducible refine k_blkC ?_
                | with_reducible refine k_blkH ?_
                | with_reducible refine k_blkB ?_
                | with_reducible refine k_blkK ?_
                | with_reducible refine k_blkE ?_
                | with_reducible refine k_reg ?_
                | with_reducible refine r_done ?_
                | with_reducible refine s_go (by simp (disch := omega) only [hlt', g1, g2, a1', a2', c21r0, c21r1, c21r2, c21r3, c21r4, c21r5, c21r6, c21r7, c21r8, c21r9, c21r10, c21r11, c21r12, c21r13, c21r14, c21r16, c21r17, c21r18, c21r19, c21r20, c21r21, c21r22, c21r24, c21r26, c21r27, c21r28, c21r30, c21r32, EV0, EV1, EV2, EV3, EV4, EV5, EV6, EV7, EV8, VALS, plug, ite_same, decide_true, decide_false, eq_self, ↓reduceIte, reduceCtorEq, Nat.reduceAdd, Nat.reduceEqDiff, Nat.reduceLT, Nat.reduceLeDiff, Nat.reduceMul, Nat.reduceSub, Nat.reduceDiv, Int.reduceToNat, Int.reduceAdd, Int.reduceSub, Int.reduceMul, Int.reduceNeg, Int.reduceEq, Int.reduceLT, Int.reduceLE]; with_reducible rfl) ?_
                | ((with_reducible refine chk_r ?_); refine r_callF (by simp only [CA, Nat.reduceEqDiff, ↓reduceIte]; rfl) (by exact rfl) (by simp only [CA, Nat.reduceEqDiff, ↓reduceIte]; rfl) rfl ?_)
                | (with_reducible refine k_condP (by simp only [GA, Nat.reduceEqDiff, ↓reduceIte]; rfl) (by first | (simp only [BO]; rfl) | rfl) (fun ht => ?_) (fun ht => ?_) <;> try (first | exact False.elim ht | exact absurd rfl ht | exact absurd trivial ht | exact Bool.noConfusion ht))
                | (with_reducible refine k_ret ?_; repeat with_reducible (first | refine ret_thru ?_ | refine ret_blk ?_ | refine fin ?_))
                | (with_reducible refine k_exit ?_; repeat with_reducible (first | refine thru ?_ | refine out_blk ?_ | refine pass (by decide) ?_))
                | (refine post1 ?_; simp only [GA, Nat.reduceEqDiff, ↓reduceIte])
                | (refine post2 ?_; simp only [GA, Nat.reduceEqDiff, ↓reduceIte])
                | (refine post3 ?_; simp only [GA, Nat.reduceEqDiff, ↓reduceIte])
                | (refine postc (by simp only [GA, Nat.reduceEqDiff, ↓reduceIte]; rfl) (by simp (disch := omega) only [hlt', g1, g2, a1', a2', c21r0, c21r1, c21r2, c21r3, c21r4, c21r5, c21r6, c21r7, c21r8, c21r9, c21r10, c21r11, c21r12, c21r13, c21r14, c21r16, c21r17, c21r18, c21r19, c21r20, c21r21, c21r22, c21r24, c21r26, c21r27, c21r28, c21r30, c21r32, EV0, EV1, EV2, EV3, EV4, EV5, EV6, EV7, EV8, VALS, plug, ite_same, decide_true, decide_false, eq_self, ↓reduceIte, reduceCtorEq, Nat.reduceAdd, Nat.reduceEqDiff, Nat.reduceLT, Nat.reduceLeDiff, Nat.reduceMul, Nat.reduceSub, Nat.reduceDiv, Int.reduceToNat, Int.reduceAdd, Int.reduceSub, Int.reduceMul, Int.reduceNeg, Int.reduceEq, Int.reduceLT, Int.reduceLE]; rfl) ?_)
                | refine post0 ?_
              exact ⟨hlt, (), (by simp only [Am.keep, List.map_cons, List.map_nil, GA, Nat.reduceEqDiff, ↓reduceIte, e]; try rfl), by simp (disch := omega) only [hm, c21r0, c21r1, c21r2, c21r3, c21r4, c21r5, c21r6, c21r7, c21r8, c21r9, c21r10, c21r11, c21r12, c21r13, c21r14, c21r16, c21r17, c21r18, c21r19, c21r20, c21r21, c21r22, c21r24, c21r26, c21r27, c21r28, c21r30, c21r32, EV0, EV1, EV2, EV3, EV4, EV5, EV6, EV7, EV8, VALS, plug, ite_same, decide_true, decide_false, eq_self, ↓reduceIte, reduceCtorEq, Nat.reduceAdd, Nat.reduceEqDiff, Nat.reduceLT, Nat.reduceLeDiff, Nat.reduceMul, Nat.reduceSub, Nat.reduceDiv, Int.reduceToNat, Int.reduceAdd, Int.reduceSub, Int.reduceMul, Int.reduceNeg, Int.reduceEq, Int.reduceLT, Int.reduceLE]⟩
            · have a2' := eq_false a2
              have e := pz_no (l := l) (D := D) (G := G) (k := k) fun h => a2 h.2
              repeat' first
                | with_reducible refine k_seq ?_
                | with_reducible refine k_skip ?_
                | with_reducible refine k_blkS ?_
                | with_reducible refine k_blkR ?_
                | with_reducible refine k_blkC ?_
                | with_reducible refine k_blkH ?_
                | with_reducible refine k_blkB ?_
                | with_reducible refine k_blkK ?_
                | with_reducible refine k_blkE ?_
                | with_reducible refine k_reg ?_
                | with_reducible refine r_done ?_
                | with_reducible refine s_go (by simp (disch := omega) only [hlt', g1, g2, a1', a2', c21r0, c21r1, c21r2, c21r3, c21r4, c21r5, c21r6, c21r7, c21r8, c21r9, c21r10, c21r11, c21r12, c21r13, c21r14, c21r16, c21r17, c21r18, c21r19, c21r20, c21r21, c21r22, c21r24, c21r26, c21r27, c21r28, c21r30, c21r32, EV0, EV1, EV2, EV3, EV4, EV5, EV6, EV7, EV8, VALS, plug, ite_same, decide_true, decide_false, eq_self, ↓reduceIte, reduceCtorEq, Nat.reduceAdd, Nat.reduceEqDiff, Nat.reduceLT, Nat.reduceLeDiff, Nat.reduceMul, Nat.reduceSub, Nat.reduceDiv, Int.reduceToNat, Int.reduceAdd, Int.reduceSub, Int.reduceMul, Int.reduceNeg, Int.reduceEq, Int.reduceLT, Int.reduceLE]; with_reducible rfl) ?_
                | ((with_reducible refine chk_r ?_); refine r_callF (by simp only [CA, Nat.reduceEqDiff, ↓reduceIte]; rfl) (by exact rfl) (by simp only [CA, Nat.reduceEqDiff, ↓reduceIte]; rfl) rfl ?_)
                | (with_reducible refine k_condP (by simp only [GA, Nat.reduceEqDiff, ↓reduceIte]; rfl) (by first | (simp only [BO]; rfl) | rfl) (fun ht => ?_) (fun ht => ?_) <;> try (first | exact False.elim ht | exact absurd rfl ht | exact absurd trivial ht | exact Bool.noConfusion ht))
                | (with_reducible refine k_ret ?_; repeat with_reducible (first | refine ret_thru ?_ | refine ret_blk ?_ | refine fin ?_))
                | (with_reducible refine k_exit ?_; repeat with_reducible (first | refine thru ?_ | refine out_blk ?_ | refine pass (by decide) ?_))
                | (refine post1 ?_; simp only [GA, Nat.reduceEqDiff, ↓reduceIte])
                | (refine post2 ?_; simp only [GA, Nat.reduceEqDiff, ↓reduceIte])
                | (refine post3 ?_; simp only [GA, Nat.reduceEqDiff, ↓reduceIte])
                | (refine postc (by simp only [GA, Nat.reduceEqDiff, ↓reduceIte]; rfl) (by simp (disch := omega) only [hlt', g1, g2, a1', a2', c21r0, c21r1, c21r2, c21r3, c21r4, c21r5, c21r6, c21r7, c21r8, c21r9, c21r10, c21r11, c21r12, c21r13, c21r14, c21r16, c21r17, c21r18, c21r19, c21r20, c21r21, c21r22, c21r24, c21r26, c21r27, c21r28, c21r30, c21r32, EV0, EV1, EV2, EV3, EV4, EV5, EV6, EV7, EV8, VALS, plug, ite_same, decide_true, decide_false, eq_self, ↓reduceIte, reduceCtorEq, Nat.reduceAdd, Nat.reduceEqDiff, Nat.reduceLT, Nat.reduceLeDiff, Nat.reduceMul, Nat.reduceSub, Nat.reduceDiv, Int.reduceToNat, Int.reduceAdd, Int.reduceSub, Int.reduceMul, Int.reduceNeg, Int.reduceEq, Int.reduceLT, Int.reduceLE]; rfl) ?_)
                | refine post0 ?_
              exact ⟨hlt, (), (by simp only [Am.keep, List.map_cons, List.map_nil, GA, Nat.reduceEqDiff, ↓reduceIte, e]; try rfl), by simp (disch := omega) only [hm, c21r0, c21r1, c21r2, c21r3, c21r4, c21r5, c21r6, c21r7, c21r8, c21r9, c21r10, c21r11, c21r12, c21r13, c21r14, c21r16, c21r17, c21r18, c21r19, c21r20, c21r21, c21r22, c21r24, c21r26, c21r27, c21r28, c21r30, c21r32, EV0, EV1, EV2, EV3, EV4, EV5, EV6, EV7, EV8, VALS, plug, ite_same, decide_true, decide_false, eq_self, ↓reduceIte, reduceCtorEq, Nat.reduceAdd, Nat.reduceEqDiff, Nat.reduceLT, Nat.reduceLeDiff, Nat.reduceMul, Nat.reduceSub, Nat.reduceDiv, Int.reduceToNat, Int.reduceAdd, Int.reduceSub, Int.reduceMul, Int.reduceNeg, Int.reduceEq, Int.reduceLT, Int.reduceLE]⟩
          · have a1' := eq_false a1
            have e := pz_no (l := l) (D := D) (G := G) (k := k) fun h => a1 h.1
            repeat' first
              | with_reducible refine k_seq ?_
              | with_reducible refine k_skip ?_
              | with_reducible refine k_blkS ?_
              | with_reducible refine k_blkR ?_
              | with_reducible refine k_blkC ?_
              | with_reducible refine k_blkH ?_
              | with_reducible refine k_blkB ?_
              | with_reducible refine k_blkK ?_
              | with_reducible refine k_blkE ?_
              | with_reducible refine k_reg ?_
              | with_reducible refine r_done ?_
              | with_reducible refine s_go (by simp (disch := omega) only [hlt', g1, g2, a1', c21r0, c21r1, c21r2, c21r3, c21r4, c21r5, c21r6, c21r7, c21r8, c21r9, c21r10, c21r11, c21r12, c21r13, c21r14, c21r16, c21r17, c21r18, c21r19, c21r20, c21r21, c21r22, c21r24, c21r26, c21r27, c21r28, c21r30, c21r32, EV0, EV1, EV2, EV3, EV4, EV5, EV6, EV7, EV8, VALS, plug, ite_same, decide_true, decide_false, eq_self, ↓reduceIte, reduceCtorEq, Nat.reduceAdd, Nat.reduceEqDiff, Nat.reduceLT, Nat.reduceLeDiff, Nat.reduceMul, Nat.reduceSub, Nat.reduceDiv, Int.reduceToNat, Int.reduceAdd, Int.reduceSub, Int.reduceMul, Int.reduceNeg, Int.reduceEq, Int.reduceLT, Int.reduceLE]; with_reducible rfl) ?_
              | ((with_reducible refine chk_r ?_); refine r_callF (by simp only [CA, Nat.reduceEqDiff, ↓reduceIte]; rfl) (by exact rfl) (by simp only [CA, Nat.reduceEqDiff, ↓reduceIte]; rfl) rfl ?_)
              | (with_reducible refine k_condP (by simp only [GA, Nat.reduceEqDiff, ↓reduceIte]; rfl) (by first | (simp only [BO]; rfl) | rfl) (fun ht => ?_) (fun ht => ?_) <;> try (first | exact False.elim ht | exact absurd rfl ht | exact absurd trivial ht | exact Bool.noConfusion ht))
              | (with_reducible refine k_ret ?_; repeat with_reducible (first | refine ret_thru ?_ | refine ret_blk ?_ | refine fin ?_))
              | (with_reducible refine k_exit ?_; repeat with_reducible (first | refine thru ?_ | refine out_blk ?_ | refine pass (by decide) ?_))
              | (refine post1 ?_; simp only [GA, Nat.reduceEqDiff, ↓reduceIte])
              | (refine post2 ?_; simp only [GA, Nat.reduceEqDiff, ↓reduceIte])
              | (refine post3 ?_; simp only [GA, Nat.reduceEqDiff, ↓reduceIte])
              | (refine postc (by simp only [GA, Nat.reduceEqDiff, ↓reduceIte]; rfl) (by simp (disch := omega) only [hlt', g1, g2, a1', c21r0, c21r1, c21r2, c21r3, c21r4, c21r5, c21r6, c21r7, c21r8, c21r9, c21r10, c21r11, c21r12, c21r13, c21r14, c21r16, c21r17, c21r18, c21r19, c21r20, c21r21, c21r22, c21r24, c21r26, c21r27, c21r28, c21r30, c21r32, EV0, EV1, EV2, EV3, EV4, EV5, EV6, EV7, EV8, VALS, plug, ite_same, decide_true, decide_false, eq_self, ↓reduceIte, reduceCtorEq, Nat.reduceAdd, Nat.reduceEqDiff, Nat.reduceLT, Nat.reduceLeDiff, Nat.reduceMul, Nat.reduceSub, Nat.reduceDiv, Int.reduceToNat, Int.reduceAdd, Int.reduceSub, Int.reduceMul, Int.reduceNeg, Int.reduceEq, Int.reduceLT, Int.reduceLE]; rfl) ?_)
              | refine post0 ?_
            exact ⟨hlt, (), (by simp only [Am.keep, List.map_cons, List.map_nil, GA, Nat.reduceEqDiff, ↓reduceIte, e]; try rfl), by simp (disch := omega) only [hm, c21r0, c21r1, c21r2, c21r3, c21r4, c21r5, c21r6, c21r7, c21r8, c21r9, c21r10, c21r11, c21r12, c21r13, c21r14, c21r16, c21r17, c21r18, c21r19, c21r20, c21r21, c21r22, c21r24, c21r26, c21r27, c21r28, c21r30, c21r32, EV0, EV1, EV2, EV3, EV4, EV5, EV6, EV7, EV8, VALS, plug, ite_same, decide_true, decide_false, eq_self, ↓reduceIte, reduceCtorEq, Nat.reduceAdd, Nat.reduceEqDiff, Nat.reduceLT, Nat.reduceLeDiff, Nat.reduceMul, Nat.reduceSub, Nat.reduceDiv, Int.reduceToNat, Int.reduceAdd, Int.reduceSub, Int.reduceMul, Int.reduceNeg, Int.reduceEq, Int.reduceLT, Int.reduceLE]⟩
        · obtain rfl : k = l.length := by omega
          have hlt' : ¬ (l.length : Int) < l.length := by omega
          by_cases hp : prs l D G
          · have e : pz l D G l.length = 1 := by unfold pz; exact if_pos hp
            rw [e]
            have har := ap_rows (l := l) D G
            repeat' first
              | with_reducible refine k_seq ?_
              | with_reducible refine k_skip ?_
              | with_reducible refine k_blkS ?_
              | with_reducible refine k_blkR ?_
              | with_reducible refine k_blkC ?_
              | with_reducible refine k_blkH ?_
              | with_reducible refine k_blkB ?_
              | with_reducible refine k_blkK ?_
              | with_reducible refine k_blkE ?_
              | with_reducible refine k_reg ?_
              | with_reducible refine r_done ?_
              | with_reducible refine s_go (by simp (disch := omega) only [hlt', c21r0, c21r1, c21r2, c21r3, c21r4, c21r5, c21r6, c21r7, c21r8, c21r9, c21r10, c21r11, c21r12, c21r13, c21r14, c21r16, c21r17, c21r18, c21r19, c21r20, c21r21, c21r22, c21r24, c21r26, c21r27, c21r28, c21r30, c21r32, EV0, EV1, EV2, EV3, EV4, EV5, EV6, EV7, EV8, VALS, plug, ite_same, decide_true, decide_false, eq_self, ↓reduceIte, reduceCtorEq, Nat.reduceAdd, Nat.reduceEqDiff, Nat.reduceLT, Nat.reduceLeDiff, Nat.reduceMul, Nat.reduceSub, Nat.reduceDiv, Int.reduceToNat, Int.reduceAdd, Int.reduceSub, Int.reduceMul, Int.reduceNeg, Int.reduceEq, Int.reduceLT, Int.reduceLE]; with_reducible rfl) ?_
              | ((with_reducible refine chk_r ?_); refine r_callF (by simp only [CA, Nat.reduceEqDiff, ↓reduceIte]; rfl) (by exact rfl) (by simp only [CA, Nat.reduceEqDiff, ↓reduceIte]; rfl) rfl ?_)
              | (with_reducible refine k_condP (by simp only [GA, Nat.reduceEqDiff, ↓reduceIte]; rfl) (by first | (simp only [BO]; rfl) | rfl) (fun ht => ?_) (fun ht => ?_) <;> try (first | exact False.elim ht | exact absurd rfl ht | exact absurd trivial ht | exact Bool.noConfusion ht))
              | (with_reducible refine k_ret ?_; repeat with_reducible (first | refine ret_thru ?_ | refine ret_blk ?_ | refine fin ?_))
              | (with_reducible refine k_exit ?_; repeat with_reducible (first | refine thru ?_ | refine out_blk ?_ | refine pass (by decide) ?_))
              | (refine post1 ?_; simp only [GA, Nat.reduceEqDiff, ↓reduceIte])
              | (refine post2 ?_; simp only [GA, Nat.reduceEqDiff, ↓reduceIte])
              | (refine post3 ?_; simp only [GA, Nat.reduceEqDiff, ↓reduceIte])
              | (refine postc (by simp only [GA, Nat.reduceEqDiff, ↓reduceIte]; rfl) (by simp (disch := omega) only [hlt', c21r0, c21r1, c21r2, c21r3, c21r4, c21r5, c21r6, c21r7, c21r8, c21r9, c21r10, c21r11, c21r12, c21r13, c21r14, c21r16, c21r17, c21r18, c21r19, c21r20, c21r21, c21r22, c21r24, c21r26, c21r27, c21r28, c21r30, c21r32, EV0, EV1, EV2, EV3, EV4, EV5, EV6, EV7, EV8, VALS, plug, ite_same, decide_true, decide_false, eq_self, ↓reduceIte, reduceCtorEq, Nat.reduceAdd, Nat.reduceEqDiff, Nat.reduceLT, Nat.reduceLeDiff, Nat.reduceMul, Nat.reduceSub, Nat.reduceDiv, Int.reduceToNat, Int.reduceAdd, Int.reduceSub, Int.reduceMul, Int.reduceNeg, Int.reduceEq, Int.reduceLT, Int.reduceLE]; rfl) ?_)
              | refine post0 ?_
            refine k_blk (k_loopS (X := Int) [0, 4, 5, 6, 7, 8, 10] D (fun d n => [(0, vB l), (4, .i .i64 mo), (5, .mp t), (6, .i .i64 (D : Int)), (7, .i .i64 (G : Int)), (8, .i .i64 n), (10, .i .i64 (d : Int))])
              (fun d n h => h.m t = some (.map es) ∧ NO l D G d (G + 1) n) 1 (by simp only [Am.keep, List.map_cons, List.map_nil, GA, Nat.reduceEqDiff, ↓reduceIte]; try rfl) ⟨by simp (disch := omega) only [hm, c21r0, c21r1, c21r2, c21r3, c21r4, c21r5, c21r6, c21r7, c21r8, c21r9, c21r10, c21r11, c21r12, c21r13, c21r14, c21r16, c21r17, c21r18, c21r19, c21r20, c21r21, c21r22, c21r24, c21r26, c21r27, c21r28, c21r30, c21r32, EV0, EV1, EV2, EV3, EV4, EV5, EV6, EV7, EV8, VALS, plug, ite_same, decide_true, decide_false, eq_self, ↓reduceIte, reduceCtorEq, Nat.reduceAdd, Nat.reduceEqDiff, Nat.reduceLT, Nat.reduceLeDiff, Nat.reduceMul, Nat.reduceSub, Nat.reduceDiv, Int.reduceToNat, Int.reduceAdd, Int.reduceSub, Int.reduceMul, Int.reduceNeg, Int.reduceEq, Int.reduceLT, Int.reduceLE], NO.zero hp⟩ ?_)
            rintro d n h hd ⟨hm, N⟩ ok pos
            have htk := ok.m hm
            have nr := N.rng
            by_cases dlt : d < D
            · have dlt' : (d : Int) < D := by omega
              repeat' first
                | with_reducible refine k_seq ?_
                | with_reducible refine k_skip ?_
                | with_reducible refine k_blkS ?_
                | with_reducible refine k_blkR ?_
                | with_reducible refine k_blkC ?_
                | with_reducible refine k_blkH ?_
                | with_reducible refine k_blkB ?_
                | with_reducible refine k_blkK ?_
                | with_reducible refine k_blkE ?_
                | with_reducible refine k_reg ?_
                | with_reducible refine r_done ?_
                | with_reducible refine s_go (by simp (disch := omega) only [dlt', c21r0, c21r1, c21r2, c21r3, c21r4, c21r5, c21r6, c21r7, c21r8, c21r9, c21r10, c21r11, c21r12, c21r13, c21r14, c21r16, c21r17, c21r18, c21r19, c21r20, c21r21, c21r22, c21r24, c21r26, c21r27, c21r28, c21r30, c21r32, EV0, EV1, EV2, EV3, EV4, EV5, EV6, EV7, EV8, VALS, plug, ite_same, decide_true, decide_false, eq_self, ↓reduceIte, reduceCtorEq, Nat.reduceAdd, Nat.reduceEqDiff, Nat.reduceLT, Nat.reduceLeDiff, Nat.reduceMul, Nat.reduceSub, Nat.reduceDiv, Int.reduceToNat, Int.reduceAdd, Int.reduceSub, Int.reduceMul, Int.reduceNeg, Int.reduceEq, Int.reduceLT, Int.reduceLE]; with_reducible rfl) ?_
                | ((with_reducible refine chk_r ?_); refine r_callF (by simp only [CA, Nat.reduceEqDiff, ↓reduceIte]; rfl) (by exact rfl) (by simp only [CA, Nat.reduceEqDiff, ↓reduceIte]; rfl) rfl ?_)
                | (with_reducible refine k_condP (by simp only [GA, Nat.reduceEqDiff, ↓reduceIte]; rfl) (by first | (simp only [BO]; rfl) | rfl) (fun ht => ?_) (fun ht => ?_) <;> try (first | exact False.elim ht | exact absurd rfl ht | exact absurd trivial ht | exact Bool.noConfusion ht))
                | (with_reducible refine k_ret ?_; repeat with_reducible (first | refine ret_thru ?_ | refine ret_blk ?_ | refine fin ?_))
                | (with_reducible refine k_exit ?_; repeat with_reducible (first | refine thru ?_ | refine out_blk ?_ | refine pass (by decide) ?_))
                | (refine post1 ?_; simp only [GA, Nat.reduceEqDiff, ↓reduceIte])
                | (refine post2 ?_; simp only [GA, Nat.reduceEqDiff, ↓reduceIte])
                | (refine post3 ?_; simp only [GA, Nat.reduceEqDiff, ↓reduceIte])
                | (refine postc (by simp only [GA, Nat.reduceEqDiff, ↓reduceIte]; rfl) (by simp (disch := omega) only [dlt', c21r0, c21r1, c21r2, c21r3, c21r4, c21r5, c21r6, c21r7, c21r8, c21r9, c21r10, c21r11, c21r12, c21r13, c21r14, c21r16, c21r17, c21r18, c21r19, c21r20, c21r21, c21r22, c21r24, c21r26, c21r27, c21r28, c21r30, c21r32, EV0, EV1, EV2, EV3, EV4, EV5, EV6, EV7, EV8, VALS, plug, ite_same, decide_true, decide_false, eq_self, ↓reduceIte, reduceCtorEq, Nat.reduceAdd, Nat.reduceEqDiff, Nat.reduceLT, Nat.reduceLeDiff, Nat.reduceMul, Nat.reduceSub, Nat.reduceDiv, Int.reduceToNat, Int.reduceAdd, Int.reduceSub, Int.reduceMul, Int.reduceNeg, Int.reduceEq, Int.reduceLT, Int.reduceLE]; rfl) ?_)
                | refine post0 ?_
              refine k_blk (k_loopS (X := Int) [0, 4, 5, 6, 7, 8, 10, 11] (9 - G) (fun j n => [(0, vB l), (4, .i .i64 mo), (5, .mp t), (6, .i .i64 (D : Int)), (7, .i .i64 (G : Int)), (8, .i .i64 n), (10, .i .i64 (d : Int)), (11, .i .i64 ((G + 1 + j : Nat) : Int))])
                (fun j n h => h.m t = some (.map es) ∧ NO l D G d ((G + 1 + j : Nat) : Int) n) n (by simp only [Am.keep, List.map_cons, List.map_nil, GA, Nat.reduceEqDiff, ↓reduceIte]; try rfl) ⟨by simp (disch := omega) only [hm, c21r0, c21r1, c21r2, c21r3, c21r4, c21r5, c21r6, c21r7, c21r8, c21r9, c21r10, c21r11, c21r12, c21r13, c21r14, c21r16, c21r17, c21r18, c21r19, c21r20, c21r21, c21r22, c21r24, c21r26, c21r27, c21r28, c21r30, c21r32, EV0, EV1, EV2, EV3, EV4, EV5, EV6, EV7, EV8, VALS, plug, ite_same, decide_true, decide_false, eq_self, ↓reduceIte, reduceCtorEq, Nat.reduceAdd, Nat.reduceEqDiff, Nat.reduceLT, Nat.reduceLeDiff, Nat.reduceMul, Nat.reduceSub, Nat.reduceDiv, Int.reduceToNat, Int.reduceAdd, Int.reduceSub, Int.reduceMul, Int.reduceNeg, Int.reduceEq, Int.reduceLT, Int.reduceLE], N⟩ ?_)
              rintro j n h hj ⟨hm, N⟩ ok pos
              have htk := ok.m hm
              have nr := N.rng
              by_cases jlt : j < 9 - G
              · have jlt' : ((G + 1 + j : Nat) : Int) ≤ 9 := by omega
                have lk := mlk_F kq_K hf (.i .i64 0) false (((d : Int), ((G + 1 + j : Nat) : Int)))
                rw [if_neg (by decide), bst_get dlt ⟨by omega, by omega⟩] at lk
                have S := N.step hp dlt ⟨by omega, by omega⟩
                have ar2 := ap_rows (l := l) (d : Int) ((G + 1 + j : Nat) : Int)
                have e9 : ((G + 1 + j : Nat) : Int) + 1 = ((G + 1 + (j + 1) : Nat) : Int) := by omega
                rw [e9] at S
                simp only [eK] at lk
                repeat' first
                  | with_reducible refine k_seq ?_
                  | with_reducible refine k_skip ?_
                  | with_reducible refine k_blkS ?_
                  | with_reducible refine k_blkR ?_
                  | with_reducible refine k_blkC ?_
                  | with_reducible refine k_blkH ?_
                  | with_reducible refine k_blkB ?_
                  | with_reducible refine k_blkK ?_
                  | with_reducible refine k_blkE ?_
                  | with_reducible refine k_reg ?_
                  | with_reducible refine r_done ?_
                  | with_reducible refine s_go (by simp (disch := omega) only [jlt', hm, lk, e9, c21r0, c21r1, c21r2, c21r3, c21r4, c21r5, c21r6, c21r7, c21r8, c21r9, c21r10, c21r11, c21r12, c21r13, c21r14, c21r16, c21r17, c21r18, c21r19, c21r20, c21r21, c21r22, c21r24, c21r26, c21r27, c21r28, c21r30, c21r32, EV0, EV1, EV2, EV3, EV4, EV5, EV6, EV7, EV8, VALS, plug, ite_same, decide_true, decide_false, eq_self, ↓reduceIte, reduceCtorEq, Nat.reduceAdd, Nat.reduceEqDiff, Nat.reduceLT, Nat.reduceLeDiff, Nat.reduceMul, Nat.reduceSub, Nat.reduceDiv, Int.reduceToNat, Int.reduceAdd, Int.reduceSub, Int.reduceMul, Int.reduceNeg, Int.reduceEq, Int.reduceLT, Int.reduceLE]; with_reducible rfl) ?_
                  | ((with_reducible refine chk_r ?_); refine r_callF (by simp only [CA, Nat.reduceEqDiff, ↓reduceIte]; rfl) (by exact rfl) (by simp only [CA, Nat.reduceEqDiff, ↓reduceIte]; rfl) rfl ?_)
                  | (with_reducible refine k_condP (by simp only [GA, Nat.reduceEqDiff, ↓reduceIte]; rfl) (by first | (simp only [BO]; rfl) | rfl) (fun ht => ?_) (fun ht => ?_) <;> try (first | exact False.elim ht | exact absurd rfl ht | exact absurd trivial ht | exact Bool.noConfusion ht))
                  | (with_reducible refine k_ret ?_; repeat with_reducible (first | refine ret_thru ?_ | refine ret_blk ?_ | refine fin ?_))
                  | (with_reducible refine k_exit ?_; repeat with_reducible (first | refine thru ?_ | refine out_blk ?_ | refine pass (by decide) ?_))
                  | (refine post1 ?_; simp only [GA, Nat.reduceEqDiff, ↓reduceIte])
                  | (refine post2 ?_; simp only [GA, Nat.reduceEqDiff, ↓reduceIte])
                  | (refine post3 ?_; simp only [GA, Nat.reduceEqDiff, ↓reduceIte])
                  | (refine postc (by simp only [GA, Nat.reduceEqDiff, ↓reduceIte]; rfl) (by simp (disch := omega) only [jlt', hm, lk, e9, c21r0, c21r1, c21r2, c21r3, c21r4, c21r5, c21r6, c21r7, c21r8, c21r9, c21r10, c21r11, c21r12, c21r13, c21r14, c21r16, c21r17, c21r18, c21r19, c21r20, c21r21, c21r22, c21r24, c21r26, c21r27, c21r28, c21r30, c21r32, EV0, EV1, EV2, EV3, EV4, EV5, EV6, EV7, EV8, VALS, plug, ite_same, decide_true, decide_false, eq_self, ↓reduceIte, reduceCtorEq, Nat.reduceAdd, Nat.reduceEqDiff, Nat.reduceLT, Nat.reduceLeDiff, Nat.reduceMul, Nat.reduceSub, Nat.reduceDiv, Int.reduceToNat, Int.reduceAdd, Int.reduceSub, Int.reduceMul, Int.reduceNeg, Int.reduceEq, Int.reduceLT, Int.reduceLE]; rfl) ?_)
                  | refine post0 ?_
                exact ⟨jlt, max n ((ap l (d : Int) ((G + 1 + j : Nat) : Int) : Nat) + 1), (by simp only [Am.keep, List.map_cons, List.map_nil, GA, Nat.reduceEqDiff, ↓reduceIte]; try rfl), by simp (disch := omega) only [hm, c21r0, c21r1, c21r2, c21r3, c21r4, c21r5, c21r6, c21r7, c21r8, c21r9, c21r10, c21r11, c21r12, c21r13, c21r14, c21r16, c21r17, c21r18, c21r19, c21r20, c21r21, c21r22, c21r24, c21r26, c21r27, c21r28, c21r30, c21r32, EV0, EV1, EV2, EV3, EV4, EV5, EV6, EV7, EV8, VALS, plug, ite_same, decide_true, decide_false, eq_self, ↓reduceIte, reduceCtorEq, Nat.reduceAdd, Nat.reduceEqDiff, Nat.reduceLT, Nat.reduceLeDiff, Nat.reduceMul, Nat.reduceSub, Nat.reduceDiv, Int.reduceToNat, Int.reduceAdd, Int.reduceSub, Int.reduceMul, Int.reduceNeg, Int.reduceEq, Int.reduceLT, Int.reduceLE], S⟩
              · have jlt' : ¬ ((G + 1 + j : Nat) : Int) ≤ 9 := by omega
                have e9 : ((G + 1 + j : Nat) : Int) = 10 := by omega
                rw [e9] at N
                repeat' first
                  | with_reducible refine k_seq ?_
                  | with_reducible refine k_skip ?_
                  | with_reducible refine k_blkS ?_
                  | with_reducible refine k_blkR ?_
                  | with_reducible refine k_blkC ?_
                  | with_reducible refine k_blkH ?_
                  | with_reducible refine k_blkB ?_
                  | with_reducible refine k_blkK ?_
                  | with_reducible refine k_blkE ?_
                  | with_reducible refine k_reg ?_
                  | with_reducible refine r_done ?_
                  | with_reducible refine s_go (by simp (disch := omega) only [jlt', c21r0, c21r1, c21r2, c21r3, c21r4, c21r5, c21r6, c21r7, c21r8, c21r9, c21r10, c21r11, c21r12, c21r13, c21r14, c21r16, c21r17, c21r18, c21r19, c21r20, c21r21, c21r22, c21r24, c21r26, c21r27, c21r28, c21r30, c21r32, EV0, EV1, EV2, EV3, EV4, EV5, EV6, EV7, EV8, VALS, plug, ite_same, decide_true, decide_false, eq_self, ↓reduceIte, reduceCtorEq, Nat.reduceAdd, Nat.reduceEqDiff, Nat.reduceLT, Nat.reduceLeDiff, Nat.reduceMul, Nat.reduceSub, Nat.reduceDiv, Int.reduceToNat, Int.reduceAdd, Int.reduceSub, Int.reduceMul, Int.reduceNeg, Int.reduceEq, Int.reduceLT, Int.reduceLE]; with_reducible rfl) ?_
                  | ((with_reducible refine chk_r ?_); refine r_callF (by simp only [CA, Nat.reduceEqDiff, ↓reduceIte]; rfl) (by exact rfl) (by simp only [CA, Nat.reduceEqDiff, ↓reduceIte]; rfl) rfl ?_)
                  | (with_reducible refine k_condP (by simp only [GA, Nat.reduceEqDiff, ↓reduceIte]; rfl) (by first | (simp only [BO]; rfl) | rfl) (fun ht => ?_) (fun ht => ?_) <;> try (first | exact False.elim ht | exact absurd rfl ht | exact absurd trivial ht | exact Bool.noConfusion ht))
                  | (with_reducible refine k_ret ?_; repeat with_reducible (first | refine ret_thru ?_ | refine ret_blk ?_ | refine fin ?_))
                  | (with_reducible refine k_exit ?_; repeat with_reducible (first | refine thru ?_ | refine out_blk ?_ | refine pass (by decide) ?_))
                  | (refine post1 ?_; simp only [GA, Nat.reduceEqDiff, ↓reduceIte])
                  | (refine post2 ?_; simp only [GA, Nat.reduceEqDiff, ↓reduceIte])
                  | (refine post3 ?_; simp only [GA, Nat.reduceEqDiff, ↓reduceIte])
                  | (refine postc (by simp only [GA, Nat.reduceEqDiff, ↓reduceIte]; rfl) (by simp (disch := omega) only [jlt', c21r0, c21r1, c21r2, c21r3, c21r4, c21r5, c21r6, c21r7, c21r8, c21r9, c21r10, c21r11, c21r12, c21r13, c21r14, c21r16, c21r17, c21r18, c21r19, c21r20, c21r21, c21r22, c21r24, c21r26, c21r27, c21r28, c21r30, c21r32, EV0, EV1, EV2, EV3, EV4, EV5, EV6, EV7, EV8, VALS, plug, ite_same, decide_true, decide_false, eq_self, ↓reduceIte, reduceCtorEq, Nat.reduceAdd, Nat.reduceEqDiff, Nat.reduceLT, Nat.reduceLeDiff, Nat.reduceMul, Nat.reduceSub, Nat.reduceDiv, Int.reduceToNat, Int.reduceAdd, Int.reduceSub, Int.reduceMul, Int.reduceNeg, Int.reduceEq, Int.reduceLT, Int.reduceLE]; rfl) ?_)
                  | refine post0 ?_
                exact ⟨dlt, n, (by simp only [Am.keep, List.map_cons, List.map_nil, GA, Nat.reduceEqDiff, ↓reduceIte]; try rfl), by simp (disch := omega) only [hm, c21r0, c21r1, c21r2, c21r3, c21r4, c21r5, c21r6, c21r7, c21r8, c21r9, c21r10, c21r11, c21r12, c21r13, c21r14, c21r16, c21r17, c21r18, c21r19, c21r20, c21r21, c21r22, c21r24, c21r26, c21r27, c21r28, c21r30, c21r32, EV0, EV1, EV2, EV3, EV4, EV5, EV6, EV7, EV8, VALS, plug, ite_same, decide_true, decide_false, eq_self, ↓reduceIte, reduceCtorEq, Nat.reduceAdd, Nat.reduceEqDiff, Nat.reduceLT, Nat.reduceLeDiff, Nat.reduceMul, Nat.reduceSub, Nat.reduceDiv, Int.reduceToNat, Int.reduceAdd, Int.reduceSub, Int.reduceMul, Int.reduceNeg, Int.reduceEq, Int.reduceLT, Int.reduceLE], N.row⟩
            · obtain rfl : d = D := by omega
              have dlt' : ¬ (d : Int) < d := by omega
              have en := N.all hv hp
              subst en
              obtain ⟨u1, u2⟩ := mup_F kq_K hf (((d : Int), (G : Int))) (.i .i64 ((ap l d G : Nat) : Int))
              rw [bst_yes (by omega) hp] at u2
              simp only [eK] at u1
              repeat' first
                | with_reducible refine k_seq ?_
                | with_reducible refine k_skip ?_
                | with_reducible refine k_blkS ?_
                | with_reducible refine k_blkR ?_
                | with_reducible refine k_blkC ?_
                | with_reducible refine k_blkH ?_
                | with_reducible refine k_blkB ?_
                | with_reducible refine k_blkK ?_
                | with_reducible refine k_blkE ?_
                | with_reducible refine k_reg ?_
                | with_reducible refine r_done ?_
                | with_reducible refine s_go (by simp (disch := omega) only [dlt', hm, u1, c21r0, c21r1, c21r2, c21r3, c21r4, c21r5, c21r6, c21r7, c21r8, c21r9, c21r10, c21r11, c21r12, c21r13, c21r14, c21r16, c21r17, c21r18, c21r19, c21r20, c21r21, c21r22, c21r24, c21r26, c21r27, c21r28, c21r30, c21r32, EV0, EV1, EV2, EV3, EV4, EV5, EV6, EV7, EV8, VALS, plug, ite_same, decide_true, decide_false, eq_self, ↓reduceIte, reduceCtorEq, Nat.reduceAdd, Nat.reduceEqDiff, Nat.reduceLT, Nat.reduceLeDiff, Nat.reduceMul, Nat.reduceSub, Nat.reduceDiv, Int.reduceToNat, Int.reduceAdd, Int.reduceSub, Int.reduceMul, Int.reduceNeg, Int.reduceEq, Int.reduceLT, Int.reduceLE]; with_reducible rfl) ?_
                | ((with_reducible refine chk_r ?_); refine r_callF (by simp only [CA, Nat.reduceEqDiff, ↓reduceIte]; rfl) (by exact rfl) (by simp only [CA, Nat.reduceEqDiff, ↓reduceIte]; rfl) rfl ?_)
                | (with_reducible refine k_condP (by simp only [GA, Nat.reduceEqDiff, ↓reduceIte]; rfl) (by first | (simp only [BO]; rfl) | rfl) (fun ht => ?_) (fun ht => ?_) <;> try (first | exact False.elim ht | exact absurd rfl ht | exact absurd trivial ht | exact Bool.noConfusion ht))
                | (with_reducible refine k_ret ?_; repeat with_reducible (first | refine ret_thru ?_ | refine ret_blk ?_ | refine fin ?_))
                | (with_reducible refine k_exit ?_; repeat with_reducible (first | refine thru ?_ | refine out_blk ?_ | refine pass (by decide) ?_))
                | (refine post1 ?_; simp only [GA, Nat.reduceEqDiff, ↓reduceIte])
                | (refine post2 ?_; simp only [GA, Nat.reduceEqDiff, ↓reduceIte])
                | (refine post3 ?_; simp only [GA, Nat.reduceEqDiff, ↓reduceIte])
                | (refine postc (by simp only [GA, Nat.reduceEqDiff, ↓reduceIte]; rfl) (by simp (disch := omega) only [dlt', hm, u1, c21r0, c21r1, c21r2, c21r3, c21r4, c21r5, c21r6, c21r7, c21r8, c21r9, c21r10, c21r11, c21r12, c21r13, c21r14, c21r16, c21r17, c21r18, c21r19, c21r20, c21r21, c21r22, c21r24, c21r26, c21r27, c21r28, c21r30, c21r32, EV0, EV1, EV2, EV3, EV4, EV5, EV6, EV7, EV8, VALS, plug, ite_same, decide_true, decide_false, eq_self, ↓reduceIte, reduceCtorEq, Nat.reduceAdd, Nat.reduceEqDiff, Nat.reduceLT, Nat.reduceLeDiff, Nat.reduceMul, Nat.reduceSub, Nat.reduceDiv, Int.reduceToNat, Int.reduceAdd, Int.reduceSub, Int.reduceMul, Int.reduceNeg, Int.reduceEq, Int.reduceLT, Int.reduceLE]; rfl) ?_)
                | refine post0 ?_
              exact ⟨Glt, (_, max mo ((ap l (d : Int) (G : Int) : Nat) : Int)), (by simp only [Am.keep, List.map_cons, List.map_nil, GA, Nat.reduceEqDiff, ↓reduceIte]; try rfl), by simp (disch := omega) only [c21r0, c21r1, c21r2, c21r3, c21r4, c21r5, c21r6, c21r7, c21r8, c21r9, c21r10, c21r11, c21r12, c21r13, c21r14, c21r16, c21r17, c21r18, c21r19, c21r20, c21r21, c21r22, c21r24, c21r26, c21r27, c21r28, c21r30, c21r32, EV0, EV1, EV2, EV3, EV4, EV5, EV6, EV7, EV8, VALS, plug, ite_same, decide_true, decide_false, eq_self, ↓reduceIte, reduceCtorEq, Nat.reduceAdd, Nat.reduceEqDiff, Nat.reduceLT, Nat.reduceLeDiff, Nat.reduceMul, Nat.reduceSub, Nat.reduceDiv, Int.reduceToNat, Int.reduceAdd, Int.reduceSub, Int.reduceMul, Int.reduceNeg, Int.reduceEq, Int.reduceLT, Int.reduceLE] <;> rfl, u2, M.yes⟩
          · have e : pz l D G l.length = 0 := by unfold pz; exact if_neg hp
            rw [e]
            rw [bst_no hp] at hf
            repeat' first
              | with_reducible refine k_seq ?_
              | with_reducible refine k_skip ?_
              | with_reducible refine k_blkS ?_
              | with_reducible refine k_blkR ?_
              | with_reducible refine k_blkC ?_
              | with_reducible refine k_blkH ?_
              | with_reducible refine k_blkB ?_
              | with_reducible refine k_blkK ?_
              | with_reducible refine k_blkE ?_
              | with_reducible refine k_reg ?_
              | with_reducible refine r_done ?_
              | with_reducible refine s_go (by simp (disch := omega) only [hlt', c21r0, c21r1, c21r2, c21r3, c21r4, c21r5, c21r6, c21r7, c21r8, c21r9, c21r10, c21r11, c21r12, c21r13, c21r14, c21r16, c21r17, c21r18, c21r19, c21r20, c21r21, c21r22, c21r24, c21r26, c21r27, c21r28, c21r30, c21r32, EV0, EV1, EV2, EV3, EV4, EV5, EV6, EV7, EV8, VALS, plug, ite_same, decide_true, decide_false, eq_self, ↓reduceIte, reduceCtorEq, Nat.reduceAdd, Nat.reduceEqDiff, Nat.reduceLT, Nat.reduceLeDiff, Nat.reduceMul, Nat.reduceSub, Nat.reduceDiv, Int.reduceToNat, Int.reduceAdd, Int.reduceSub, Int.reduceMul, Int.reduceNeg, Int.reduceEq, Int.reduceLT, Int.reduceLE]; with_reducible rfl) ?_
              | ((with_reducible refine chk_r ?_); refine r_callF (by simp only [CA, Nat.reduceEqDiff, ↓reduceIte]; rfl) (by exact rfl) (by simp only [CA, Nat.reduceEqDiff, ↓reduceIte]; rfl) rfl ?_)
              | (with_reducible refine k_condP (by simp only [GA, Nat.reduceEqDiff, ↓reduceIte]; rfl) (by first | (simp only [BO]; rfl) | rfl) (fun ht => ?_) (fun ht => ?_) <;> try (first | exact False.elim ht | exact absurd rfl ht | exact absurd trivial ht | exact Bool.noConfusion ht))
              | (with_reducible refine k_ret ?_; repeat with_reducible (first | refine ret_thru ?_ | refine ret_blk ?_ | refine fin ?_))
              | (with_reducible refine k_exit ?_; repeat with_reducible (first | refine thru ?_ | refine out_blk ?_ | refine pass (by decide) ?_))
              | (refine post1 ?_; simp only [GA, Nat.reduceEqDiff, ↓reduceIte])
              | (refine post2 ?_; simp only [GA, Nat.reduceEqDiff, ↓reduceIte])
              | (refine post3 ?_; simp only [GA, Nat.reduceEqDiff, ↓reduceIte])
              | (refine postc (by simp only [GA, Nat.reduceEqDiff, ↓reduceIte]; rfl) (by simp (disch := omega) only [hlt', c21r0, c21r1, c21r2, c21r3, c21r4, c21r5, c21r6, c21r7, c21r8, c21r9, c21r10, c21r11, c21r12, c21r13, c21r14, c21r16, c21r17, c21r18, c21r19, c21r20, c21r21, c21r22, c21r24, c21r26, c21r27, c21r28, c21r30, c21r32, EV0, EV1, EV2, EV3, EV4, EV5, EV6, EV7, EV8, VALS, plug, ite_same, decide_true, decide_false, eq_self, ↓reduceIte, reduceCtorEq, Nat.reduceAdd, Nat.reduceEqDiff, Nat.reduceLT, Nat.reduceLeDiff, Nat.reduceMul, Nat.reduceSub, Nat.reduceDiv, Int.reduceToNat, Int.reduceAdd, Int.reduceSub, Int.reduceMul, Int.reduceNeg, Int.reduceEq, Int.reduceLT, Int.reduceLE]; rfl) ?_)
              | refine post0 ?_
            exact ⟨Glt, (es, mo), (by simp only [Am.keep, List.map_cons, List.map_nil, GA, Nat.reduceEqDiff, ↓reduceIte]; try rfl), by simp (disch := omega) only [hm, c21r0, c21r1, c21r2, c21r3, c21r4, c21r5, c21r6, c21r7, c21r8, c21r9, c21r10, c21r11, c21r12, c21r13, c21r14, c21r16, c21r17, c21r18, c21r19, c21r20, c21r21, c21r22, c21r24, c21r26, c21r27, c21r28, c21r30, c21r32, EV0, EV1, EV2, EV3, EV4, EV5, EV6, EV7, EV8, VALS, plug, ite_same, decide_true, decide_false, eq_self, ↓reduceIte, reduceCtorEq, Nat.reduceAdd, Nat.reduceEqDiff, Nat.reduceLT, Nat.reduceLeDiff, Nat.reduceMul, Nat.reduceSub, Nat.reduceDiv, Int.reduceToNat, Int.reduceAdd, Int.reduceSub, Int.reduceMul, Int.reduceNeg, Int.reduceEq, Int.reduceLT, Int.reduceLE], hf, M.no hp⟩
      · obtain rfl : G = 10 := by omega
        have Glt' : ¬ ((10 : Nat) : Int) ≤ 9 := by omega
        rw [bst_row] at hf
        repeat' first
          | with_reducible refine k_seq ?_
          | with_reducible refine k_skip ?_
          | with_reducible refine k_blkS ?_
          | with_reducible refine k_blkR ?_
          | with_reducible refine k_blkC ?_
          | with_reducible refine k_blkH ?_
          | with_reducible refine k_blkB ?_
          | with_reducible refine k_blkK ?_
          | with_reducible refine k_blkE ?_
          | with_reducible refine k_reg ?_
          | with_reducible refine r_done ?_
          | with_reducible refine s_go (by simp (disch := omega) only [Glt', c21r0, c21r1, c21r2, c21r3, c21r4, c21r5, c21r6, c21r7, c21r8, c21r9, c21r10, c21r11, c21r12, c21r13, c21r14, c21r16, c21r17, c21r18, c21r19, c21r20, c21r21, c21r22, c21r24, c21r26, c21r27, c21r28, c21r30, c21r32, EV0, EV1, EV2, EV3, EV4, EV5, EV6, EV7, EV8, VALS, plug, ite_same, decide_true, decide_false, eq_self, ↓reduceIte, reduceCtorEq, Nat.reduceAdd, Nat.reduceEqDiff, Nat.reduceLT, Nat.reduceLeDiff, Nat.reduceMul, Nat.reduceSub, Nat.reduceDiv, Int.reduceToNat, Int.reduceAdd, Int.reduceSub, Int.reduceMul, Int.reduceNeg, Int.reduceEq, Int.reduceLT, Int.reduceLE]; with_reducible rfl) ?_
          | ((with_reducible refine chk_r ?_); refine r_callF (by simp only [CA, Nat.reduceEqDiff, ↓reduceIte]; rfl) (by exact rfl) (by simp only [CA, Nat.reduceEqDiff, ↓reduceIte]; rfl) rfl ?_)
          | (with_reducible refine k_condP (by simp only [GA, Nat.reduceEqDiff, ↓reduceIte]; rfl) (by first | (simp only [BO]; rfl) | rfl) (fun ht => ?_) (fun ht => ?_) <;> try (first | exact False.elim ht | exact absurd rfl ht | exact absurd trivial ht | exact Bool.noConfusion ht))
          | (with_reducible refine k_ret ?_; repeat with_reducible (first | refine ret_thru ?_ | refine ret_blk ?_ | refine fin ?_))
          | (with_reducible refine k_exit ?_; repeat with_reducible (first | refine thru ?_ | refine out_blk ?_ | refine pass (by decide) ?_))
          | (refine post1 ?_; simp only [GA, Nat.reduceEqDiff, ↓reduceIte])
          | (refine post2 ?_; simp only [GA, Nat.reduceEqDiff, ↓reduceIte])
          | (refine post3 ?_; simp only [GA, Nat.reduceEqDiff, ↓reduceIte])
          | (refine postc (by simp only [GA, Nat.reduceEqDiff, ↓reduceIte]; rfl) (by simp (disch := omega) only [Glt', c21r0, c21r1, c21r2, c21r3, c21r4, c21r5, c21r6, c21r7, c21r8, c21r9, c21r10, c21r11, c21r12, c21r13, c21r14, c21r16, c21r17, c21r18, c21r19, c21r20, c21r21, c21r22, c21r24, c21r26, c21r27, c21r28, c21r30, c21r32, EV0, EV1, EV2, EV3, EV4, EV5, EV6, EV7, EV8, VALS, plug, ite_same, decide_true, decide_false, eq_self, ↓reduceIte, reduceCtorEq, Nat.reduceAdd, Nat.reduceEqDiff, Nat.reduceLT, Nat.reduceLeDiff, Nat.reduceMul, Nat.reduceSub, Nat.reduceDiv, Int.reduceToNat, Int.reduceAdd, Int.reduceSub, Int.reduceMul, Int.reduceNeg, Int.reduceEq, Int.reduceLT, Int.reduceLE]; rfl) ?_)
          | refine post0 ?_
        exact ⟨Dlt, (t, es, mo), (by simp only [Am.keep, List.map_cons, List.map_nil, GA, Nat.reduceEqDiff, ↓reduceIte]; try rfl), by simp (disch := omega) only [hm, c21r0, c21r1, c21r2, c21r3, c21r4, c21r5, c21r6, c21r7, c21r8, c21r9, c21r10, c21r11, c21r12, c21r13, c21r14, c21r16, c21r17, c21r18, c21r19, c21r20, c21r21, c21r22, c21r24, c21r26, c21r27, c21r28, c21r30, c21r32, EV0, EV1, EV2, EV3, EV4, EV5, EV6, EV7, EV8, VALS, plug, ite_same, decide_true, decide_false, eq_self, ↓reduceIte, reduceCtorEq, Nat.reduceAdd, Nat.reduceEqDiff, Nat.reduceLT, Nat.reduceLeDiff, Nat.reduceMul, Nat.reduceSub, Nat.reduceDiv, Int.reduceToNat, Int.reduceAdd, Int.reduceSub, Int.reduceMul, Int.reduceNeg, Int.reduceEq, Int.reduceLT, Int.reduceLE], hf, M.row⟩
    · obtain rfl : D = 10 := by omega
      have Dlt' : ¬ ((10 : Nat) : Int) ≤ 9 := by omega
      rw [← M.all hv]
      repeat' first
        | with_reducible refine k_seq ?_
        | with_reducible refine k_skip ?_
        | with_reducible refine k_blkS ?_
        | with_reducible refine k_blkR ?_
        | with_reducible refine k_blkC ?_
        | with_reducible refine k_blkH ?_
        | with_reducible refine k_blkB ?_
        | with_reducible refine k_blkK ?_
        | with_reducible refine k_blkE ?_
        | with_reducible refine k_reg ?_
        | with_reducible refine r_done ?_
        | with_reducible refine s_go (by simp (disch := omega) only [Dlt', c21r0, c21r1, c21r2, c21r3, c21r4, c21r5, c21r6, c21r7, c21r8, c21r9, c21r10, c21r11, c21r12, c21r13, c21r14, c21r16, c21r17, c21r18, c21r19, c21r20, c21r21, c21r22, c21r24, c21r26, c21r27, c21r28, c21r30, c21r32, EV0, EV1, EV2, EV3, EV4, EV5, EV6, EV7, EV8, VALS, plug, ite_same, decide_true, decide_false, eq_self, ↓reduceIte, reduceCtorEq, Nat.reduceAdd, Nat.reduceEqDiff, Nat.reduceLT, Nat.reduceLeDiff, Nat.reduceMul, Nat.reduceSub, Nat.reduceDiv, Int.reduceToNat, Int.reduceAdd, Int.reduceSub, Int.reduceMul, Int.reduceNeg, Int.reduceEq, Int.reduceLT, Int.reduceLE]; with_reducible rfl) ?_
        | ((with_reducible refine chk_r ?_); refine r_callF (by simp only [CA, Nat.reduceEqDiff, ↓reduceIte]; rfl) (by exact rfl) (by simp only [CA, Nat.reduceEqDiff, ↓reduceIte]; rfl) rfl ?_)
        | (with_reducible refine k_condP (by simp only [GA, Nat.reduceEqDiff, ↓reduceIte]; rfl) (by first | (simp only [BO]; rfl) | rfl) (fun ht => ?_) (fun ht => ?_) <;> try (first | exact False.elim ht | exact absurd rfl ht | exact absurd trivial ht | exact Bool.noConfusion ht))
        | (with_reducible refine k_ret ?_; repeat with_reducible (first | refine ret_thru ?_ | refine ret_blk ?_ | refine fin ?_))
        | (with_reducible refine k_exit ?_; repeat with_reducible (first | refine thru ?_ | refine out_blk ?_ | refine pass (by decide) ?_))
        | (refine post1 ?_; simp only [GA, Nat.reduceEqDiff, ↓reduceIte])
        | (refine post2 ?_; simp only [GA, Nat.reduceEqDiff, ↓reduceIte])
        | (refine post3 ?_; simp only [GA, Nat.reduceEqDiff, ↓reduceIte])
        | (refine postc (by simp only [GA, Nat.reduceEqDiff, ↓reduceIte]; rfl) (by simp (disch := omega) only [Dlt', c21r0, c21r1, c21r2, c21r3, c21r4, c21r5, c21r6, c21r7, c21r8, c21r9, c21r10, c21r11, c21r12, c21r13, c21r14, c21r16, c21r17, c21r18, c21r19, c21r20, c21r21, c21r22, c21r24, c21r26, c21r27, c21r28, c21r30, c21r32, EV0, EV1, EV2, EV3, EV4, EV5, EV6, EV7, EV8, VALS, plug, ite_same, decide_true, decide_false, eq_self, ↓reduceIte, reduceCtorEq, Nat.reduceAdd, Nat.reduceEqDiff, Nat.reduceLT, Nat.reduceLeDiff, Nat.reduceMul, Nat.reduceSub, Nat.reduceDiv, Int.reduceToNat, Int.reduceAdd, Int.reduceSub, Int.reduceMul, Int.reduceNeg, Int.reduceEq, Int.reduceLT, Int.reduceLE]; rfl) ?_)
        | refine post0 ?_
      all_goals first | exact ends_of | exact ends_eq rfl
  · rw [if_neg hv, if_neg hv]
    rw [vl_f hv] at q23
    repeat' first
      | with_reducible refine k_seq ?_
      | with_reducible refine k_skip ?_
      | with_reducible refine k_blkS ?_
      | with_reducible refine k_blkR ?_
      | with_reducible refine k_blkC ?_
      | with_reducible refine k_blkH ?_
      | with_reducible refine k_blkB ?_
      | with_reducible refine k_blkK ?_
      | with_reducible refine k_blkE ?_
      | with_reducible refine k_reg ?_
      | with_reducible refine r_done ?_
      | with_reducible refine s_go (by simp (disch := omega) only [c21r0, c21r1, c21r2, c21r3, c21r4, c21r5, c21r6, c21r7, c21r8, c21r9, c21r10, c21r11, c21r12, c21r13, c21r14, c21r16, c21r17, c21r18, c21r19, c21r20, c21r21, c21r22, c21r24, c21r26, c21r27, c21r28, c21r30, c21r32, EV0, EV1, EV2, EV3, EV4, EV5, EV6, EV7, EV8, VALS, plug, ite_same, decide_true, decide_false, eq_self, ↓reduceIte, reduceCtorEq, Nat.reduceAdd, Nat.reduceEqDiff, Nat.reduceLT, Nat.reduceLeDiff, Nat.reduceMul, Nat.reduceSub, Nat.reduceDiv, Int.reduceToNat, Int.reduceAdd, Int.reduceSub, Int.reduceMul, Int.reduceNeg, Int.reduceEq, Int.reduceLT, Int.reduceLE]; with_reducible rfl) ?_
      | ((with_reducible refine chk_r ?_); refine r_callF (by simp only [CA, Nat.reduceEqDiff, ↓reduceIte]; rfl) (by exact rfl) (by simp only [CA, Nat.reduceEqDiff, ↓reduceIte]; rfl) rfl ?_)
      | ((with_reducible refine chk_r ?_); refine r_callP (by simp only [CA, Nat.reduceEqDiff, ↓reduceIte]; rfl) (by simp only [CA, Nat.reduceEqDiff, ↓reduceIte]; rfl) (by first | exact q23 _) rfl ?_)
      | (with_reducible refine k_condP (by simp only [GA, Nat.reduceEqDiff, ↓reduceIte]; rfl) (by first | (simp only [BO]; rfl) | rfl) (fun ht => ?_) (fun ht => ?_) <;> try (first | exact False.elim ht | exact absurd rfl ht | exact absurd trivial ht | exact Bool.noConfusion ht))
      | (with_reducible refine k_ret ?_; repeat with_reducible (first | refine ret_thru ?_ | refine ret_blk ?_ | refine fin ?_))
      | (with_reducible refine k_exit ?_; repeat with_reducible (first | refine thru ?_ | refine out_blk ?_ | refine pass (by decide) ?_))
      | (refine post1 ?_; simp only [GA, Nat.reduceEqDiff, ↓reduceIte])
      | (refine post2 ?_; simp only [GA, Nat.reduceEqDiff, ↓reduceIte])
      | (refine post3 ?_; simp only [GA, Nat.reduceEqDiff, ↓reduceIte])
      | (refine postc (by simp only [GA, Nat.reduceEqDiff, ↓reduceIte]; rfl) (by simp (disch := omega) only [c21r0, c21r1, c21r2, c21r3, c21r4, c21r5, c21r6, c21r7, c21r8, c21r9, c21r10, c21r11, c21r12, c21r13, c21r14, c21r16, c21r17, c21r18, c21r19, c21r20, c21r21, c21r22, c21r24, c21r26, c21r27, c21r28, c21r30, c21r32, EV0, EV1, EV2, EV3, EV4, EV5, EV6, EV7, EV8, VALS, plug, ite_same, decide_true, decide_false, eq_self, ↓reduceIte, reduceCtorEq, Nat.reduceAdd, Nat.reduceEqDiff, Nat.reduceLT, Nat.reduceLeDiff, Nat.reduceMul, Nat.reduceSub, Nat.reduceDiv, Int.reduceToNat, Int.reduceAdd, Int.reduceSub, Int.reduceMul, Int.reduceNeg, Int.reduceEq, Int.reduceLT, Int.reduceLE]; rfl) ?_)
      | refine post0 ?_
    all_goals first | exact ends_of | exact ends_eq rfl
end Go.Proofs.Ytjncfpfgobojpaa
