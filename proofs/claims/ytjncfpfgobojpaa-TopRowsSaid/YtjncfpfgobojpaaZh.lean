/- What the proof of the law needs: the abstract machine, the functions as it reads them, their contracts, part 8. -/
import Derived.Test.YtjncfpfgobojpaaZg
set_option linter.unusedVariables false
set_option linter.unusedSimpArgs false
namespace Go.Proofs.Ytjncfpfgobojpaa
open Go Go.Am Go.Proofs Go.Sort
def rvR (r : List Rn) : AV := .vs r.length (fl eR r)
abbrev vRR (runs : List (List Rn)) : AV := .vs runs.length (runs.map rvR)
theorem vRR_plain (runs : List (List Rn)) : AV.plains (runs.map rvR) = true := plains_all fun x hx => by
 obtain ⟨r, _, rfl⟩ := List.mem_map.1 hx
 exact flR_plain r
theorem vrr_get {runs : List (List Rn)} {k : Nat} (h : k < runs.length) : (runs.map rvR)[k]? = some (.vs (rw_ runs k).length (fl eR (rw_ runs k))) := by
 simp [h, rvR, rw_]
theorem rdR {row : List Rn} {j : Nat} (h : j < row.length) : rd (fl eR row) (j * 4) (some 4) = some (.ag (eR (rnD row j))) := fl_rd eR_len R0 h
noncomputable def mb (runs : List (List Rn)) : Bool := @decide (mny runs) (Classical.propDecidable _)
theorem mb_t {runs : List (List Rn)} (h : mny runs) : mb runs = true := by unfold mb; exact @decide_eq_true _ (Classical.propDecidable _) h
theorem mb_f {runs : List (List Rn)} (h : ¬ mny runs) : mb runs = false := by unfold mb; exact @decide_eq_false _ (Classical.propDecidable _) h
abbrev lgR (n : Nat) (runs : List (List Rn)) (i : Nat) : Bool := decide ((n : Int) < (rw_ runs i).length)
theorem pc92 (row : List Rn) : PC Try.prog 92 [.vs row.length (fl eR row)] (.b (decide ((100 : Int) < row.length))) := by
 refine pc_fn fn92 (by simp only [AV.plains, AV.plain, il_plain, bl_plain, Bool.and_true, Bool.true_and, Bool.and_self, flR_plain]) (by simp only [AV.plains, AV.plain, il_plain, bl_plain, Bool.and_true, Bool.true_and, Bool.and_self, flR_plain]) (Nat.le_of_ble_eq_true rfl) ?_
 rw [initSt1]
 repeat' first | (with_reducible first | refine k_seq ?_ | refine k_skip ?_ | refine k_blkS ?_ | refine k_blkR ?_ | refine k_blkC ?_ | refine k_blkH ?_ | refine k_blkB ?_ | refine k_blkK ?_ | refine k_blkE ?_ | refine k_reg ?_) | with_reducible refine r_done ?_ | with_reducible refine s_go (by simp (disch := omega) only [c92r0, c92r1, EVA, plug, eq_self, simprocAttr]; with_reducible rfl) ?_ | ((with_reducible refine chk_r ?_); refine r_callF (by simp only [CA, simprocAttr]; rfl) (by exact rfl) (by simp only [CA, simprocAttr]; rfl) rfl ?_) | (with_reducible refine k_condP (by simp only [GA, simprocAttr]; rfl) (by first | (simp only [BO]; rfl) | rfl) (fun ht => ?_) (fun ht => ?_) <;> try (first | exact False.elim ht | exact absurd rfl ht | exact absurd trivial ht | exact Bool.noConfusion ht)) | (with_reducible refine k_ret ?_; repeat with_reducible (first | refine ret_thru ?_ | refine ret_blk ?_ | refine fin ?_)) | (with_reducible refine k_exit ?_; repeat with_reducible (first | refine thru ?_ | refine out_blk ?_ | refine pass (by decide) ?_)) | ((first | refine post1 ?_ | refine post2 ?_ | refine post3 ?_); simp only [GA, simprocAttr]) | refine post0 ?_
 all_goals first | exact ends_of | exact ends_eq rfl
theorem RG100 : (type_of% @c100r0.eq_1) ∧ (type_of% @c100r1.eq_1) ∧ (type_of% @c100r2.eq_1) ∧ (type_of% @c100r3.eq_1) ∧ (type_of% @c100r4.eq_1) ∧ (type_of% @c100r5.eq_1) ∧ (type_of% @c100r6.eq_1) ∧ (type_of% @c100r8.eq_1) := ⟨@c100r0.eq_1, @c100r1.eq_1, @c100r2.eq_1, @c100r3.eq_1, @c100r4.eq_1, @c100r5.eq_1, @c100r6.eq_1, @c100r8.eq_1⟩
theorem pc100 (runs : List (List Rn)) (hn : runs.length ≤ 9223372036854775807) : PC Try.prog 100 [vRR runs, .fn 92 [] []] (.i .i64 (fi (lgR 100 runs) runs.length)) := by
 refine pc_fn fn100 (by simp only [AV.plains, AV.plain, il_plain, bl_plain, Bool.and_true, Bool.true_and, Bool.and_self, vRR_plain]) (by simp only [AV.plains, AV.plain, il_plain, bl_plain, Bool.and_true, Bool.true_and, Bool.and_self, vRR_plain]) (Nat.le_of_ble_eq_true rfl) ?_
 rw [initSt2]
 repeat' first | (with_reducible first | refine k_seq ?_ | refine k_skip ?_ | refine k_blkS ?_ | refine k_blkR ?_ | refine k_blkC ?_ | refine k_blkH ?_ | refine k_blkB ?_ | refine k_blkK ?_ | refine k_blkE ?_ | refine k_reg ?_) | with_reducible refine r_done ?_ | with_reducible refine s_go (by simp (disch := omega) only [RG100, EVA, plug, eq_self, simprocAttr]; with_reducible rfl) ?_ | ((with_reducible refine chk_r ?_); refine r_callF (by simp only [CA, simprocAttr]; rfl) (by exact rfl) (by simp only [CA, simprocAttr]; rfl) rfl ?_) | (with_reducible refine k_condP (by simp only [GA, simprocAttr]; rfl) (by first | (simp only [BO]; rfl) | rfl) (fun ht => ?_) (fun ht => ?_) <;> try (first | exact False.elim ht | exact absurd rfl ht | exact absurd trivial ht | exact Bool.noConfusion ht)) | (with_reducible refine k_ret ?_; repeat with_reducible (first | refine ret_thru ?_ | refine ret_blk ?_ | refine fin ?_)) | (with_reducible refine k_exit ?_; repeat with_reducible (first | refine thru ?_ | refine out_blk ?_ | refine pass (by decide) ?_)) | ((first | refine post1 ?_ | refine post2 ?_ | refine post3 ?_); simp only [GA, simprocAttr]) | refine post0 ?_
 refine k_blk (k_loopS (X := Unit) [0, 1, 7, 8] runs.length (fun k _ => [(0, vRR runs), (1, .fn 92 [] []), (7, .i .i64 runs.length), (8, .i .i64 (k : Int))]) (fun k _ h => ∀ j, j < k → lgR 100 runs j = false) () (by simp only [Am.keep, List.map_cons, List.map_nil, GA, simprocAttr]; try rfl) (fun j hj => by omega) ?_)
 rintro k _ h hk hf ok pos
 by_cases hlt : k < runs.length
 ·have hlt' : (k : Int) < runs.length := by omega
  have g := vrr_get hlt
  have q : PC Try.prog 92 [.vs (rw_ runs k).length (fl eR (rw_ runs k))] (.b (lgR 100 runs k)) := pc92 (rw_ runs k)
  cases hm : lgR 100 runs k with
  | true =>
    rw [hm] at q
    rw [fi_at hf hm hlt]
    repeat' first | (with_reducible first | refine k_seq ?_ | refine k_skip ?_ | refine k_blkS ?_ | refine k_blkR ?_ | refine k_blkC ?_ | refine k_blkH ?_ | refine k_blkB ?_ | refine k_blkK ?_ | refine k_blkE ?_ | refine k_reg ?_) | with_reducible refine r_done ?_ | with_reducible refine s_go (by simp (disch := omega) only [hlt', g, RG100, EVA, plug, eq_self, simprocAttr]; with_reducible rfl) ?_ | ((with_reducible refine chk_r ?_); refine r_callF (by simp only [CA, simprocAttr]; rfl) (by exact rfl) (by simp only [CA, simprocAttr]; rfl) rfl ?_) | ((with_reducible refine chk_r ?_); refine r_callP (by simp only [CA, simprocAttr]; rfl) (by simp only [CA, simprocAttr]; rfl) (by first | exact q _) rfl ?_) | (with_reducible refine k_condP (by simp only [GA, simprocAttr]; rfl) (by first | (simp only [BO]; rfl) | rfl) (fun ht => ?_) (fun ht => ?_) <;> try (first | exact False.elim ht | exact absurd rfl ht | exact absurd trivial ht | exact Bool.noConfusion ht)) | (with_reducible refine k_ret ?_; repeat with_reducible (first | refine ret_thru ?_ | refine ret_blk ?_ | refine fin ?_)) | (with_reducible refine k_exit ?_; repeat with_reducible (first | refine thru ?_ | refine out_blk ?_ | refine pass (by decide) ?_)) | ((first | refine post1 ?_ | refine post2 ?_ | refine post3 ?_); simp only [GA, simprocAttr]) | refine post0 ?_
    all_goals first | exact ends_of | exact ends_eq rfl
  | false =>
    rw [hm] at q
    repeat' first | (with_reducible first | refine k_seq ?_ | refine k_skip ?_ | refine k_blkS ?_ | refine k_blkR ?_ | refine k_blkC ?_ | refine k_blkH ?_ | refine k_blkB ?_ | refine k_blkK ?_ | refine k_blkE ?_ | refine k_reg ?_) | with_reducible refine r_done ?_ | with_reducible refine s_go (by simp (disch := omega) only [hlt', g, RG100, EVA, plug, eq_self, simprocAttr]; with_reducible rfl) ?_ | ((with_reducible refine chk_r ?_); refine r_callF (by simp only [CA, simprocAttr]; rfl) (by exact rfl) (by simp only [CA, simprocAttr]; rfl) rfl ?_) | ((with_reducible refine chk_r ?_); refine r_callP (by simp only [CA, simprocAttr]; rfl) (by simp only [CA, simprocAttr]; rfl) (by first | exact q _) rfl ?_) | (with_reducible refine k_condP (by simp only [GA, simprocAttr]; rfl) (by first | (simp only [BO]; rfl) | rfl) (fun ht => ?_) (fun ht => ?_) <;> try (first | exact False.elim ht | exact absurd rfl ht | exact absurd trivial ht | exact Bool.noConfusion ht)) | (with_reducible refine k_ret ?_; repeat with_reducible (first | refine ret_thru ?_ | refine ret_blk ?_ | refine fin ?_)) | (with_reducible refine k_exit ?_; repeat with_reducible (first | refine thru ?_ | refine out_blk ?_ | refine pass (by decide) ?_)) | ((first | refine post1 ?_ | refine post2 ?_ | refine post3 ?_); simp only [GA, simprocAttr]) | refine post0 ?_
    refine ⟨hlt, (), (by simp only [Am.keep, List.map_cons, List.map_nil, GA, simprocAttr]; try rfl), fun j hj => ?_⟩
    by_cases e : j = k
    ·subst e; exact hm
    ·exact hf j (by omega)
 ·obtain rfl : k = runs.length := by omega
  have hlt' : ¬ (runs.length : Int) < runs.length := by omega
  rw [fi_none hf]
  repeat' first | (with_reducible first | refine k_seq ?_ | refine k_skip ?_ | refine k_blkS ?_ | refine k_blkR ?_ | refine k_blkC ?_ | refine k_blkH ?_ | refine k_blkB ?_ | refine k_blkK ?_ | refine k_blkE ?_ | refine k_reg ?_) | with_reducible refine r_done ?_ | with_reducible refine s_go (by simp (disch := omega) only [hlt', RG100, EVA, plug, eq_self, simprocAttr]; with_reducible rfl) ?_ | ((with_reducible refine chk_r ?_); refine r_callF (by simp only [CA, simprocAttr]; rfl) (by exact rfl) (by simp only [CA, simprocAttr]; rfl) rfl ?_) | (with_reducible refine k_condP (by simp only [GA, simprocAttr]; rfl) (by first | (simp only [BO]; rfl) | rfl) (fun ht => ?_) (fun ht => ?_) <;> try (first | exact False.elim ht | exact absurd rfl ht | exact absurd trivial ht | exact Bool.noConfusion ht)) | (with_reducible refine k_ret ?_; repeat with_reducible (first | refine ret_thru ?_ | refine ret_blk ?_ | refine fin ?_)) | (with_reducible refine k_exit ?_; repeat with_reducible (first | refine thru ?_ | refine out_blk ?_ | refine pass (by decide) ?_)) | ((first | refine post1 ?_ | refine post2 ?_ | refine post3 ?_); simp only [GA, simprocAttr]) | refine post0 ?_
  all_goals first | exact ends_of | exact ends_eq rfl
theorem pc91 (runs : List (List Rn)) (hn : runs.length ≤ 9223372036854775807) : PC Try.prog 91 [vRR runs, .fn 92 [] []] (.b (decide (0 ≤ fi (lgR 100 runs) runs.length))) := by
 refine pc_fn fn91 (by simp only [AV.plains, AV.plain, il_plain, bl_plain, Bool.and_true, Bool.true_and, Bool.and_self, vRR_plain]) (by simp only [AV.plains, AV.plain, il_plain, bl_plain, Bool.and_true, Bool.true_and, Bool.and_self, vRR_plain]) (Nat.le_of_ble_eq_true rfl) ?_
 rw [initSt2]
 have q := pc100 runs hn
 generalize fi (lgR 100 runs) runs.length = X at q ⊢
 repeat' first | (with_reducible first | refine k_seq ?_ | refine k_skip ?_ | refine k_blkS ?_ | refine k_blkR ?_ | refine k_blkC ?_ | refine k_blkH ?_ | refine k_blkB ?_ | refine k_blkK ?_ | refine k_blkE ?_ | refine k_reg ?_) | with_reducible refine r_done ?_ | with_reducible refine s_go (by simp (disch := omega) only [c91r0, c91r1, EVA, plug, eq_self, simprocAttr]; with_reducible rfl) ?_ | ((with_reducible refine chk_r ?_); refine r_callF (by simp only [CA, simprocAttr]; rfl) (by exact rfl) (by simp only [CA, simprocAttr]; rfl) rfl ?_) | ((with_reducible refine chk_r ?_); refine r_callP (by simp only [CA, simprocAttr]; rfl) (by simp only [CA, simprocAttr]; rfl) (by first | exact q _) rfl ?_) | (with_reducible refine k_condP (by simp only [GA, simprocAttr]; rfl) (by first | (simp only [BO]; rfl) | rfl) (fun ht => ?_) (fun ht => ?_) <;> try (first | exact False.elim ht | exact absurd rfl ht | exact absurd trivial ht | exact Bool.noConfusion ht)) | (with_reducible refine k_ret ?_; repeat with_reducible (first | refine ret_thru ?_ | refine ret_blk ?_ | refine fin ?_)) | (with_reducible refine k_exit ?_; repeat with_reducible (first | refine thru ?_ | refine out_blk ?_ | refine pass (by decide) ?_)) | ((first | refine post1 ?_ | refine post2 ?_ | refine post3 ?_); simp only [GA, simprocAttr]) | refine post0 ?_
 all_goals first | exact ends_of | exact ends_eq rfl
theorem mny_fi {runs : List (List Rn)} (h : ¬ (8 : Int) < runs.length) : decide (0 ≤ fi (lgR 100 runs) runs.length) = mb runs := by
 by_cases q : mny runs
 ·rw [mb_t q]
  refine decide_eq_true (fi_ge.2 ?_)
  rcases q with q | ⟨i, hi, q⟩
  ·omega
  ·exact ⟨i, hi, decide_eq_true (by omega)⟩
 ·rw [mb_f q]
  refine decide_eq_false fun z => q (.inr ?_)
  obtain ⟨i, hi, z⟩ := fi_ge.1 z
  exact ⟨i, hi, by have := of_decide_eq_true z; omega⟩
theorem pc78 (runs : List (List Rn)) (hn : runs.length ≤ 9223372036854775807) : PC Try.prog 78 [vRR runs] (.b (mb runs)) := by
 refine pc_fn fn78 (by simp only [AV.plains, AV.plain, il_plain, bl_plain, Bool.and_true, Bool.true_and, Bool.and_self, vRR_plain]) (by simp only [AV.plains, AV.plain, il_plain, bl_plain, Bool.and_true, Bool.true_and, Bool.and_self, vRR_plain]) (Nat.le_of_ble_eq_true rfl) ?_
 rw [initSt1]
 have q := pc91 runs hn
 by_cases c : (8 : Int) < runs.length
 ·rw [mb_t (.inl (by omega))]
  repeat' first | (with_reducible first | refine k_seq ?_ | refine k_skip ?_ | refine k_blkS ?_ | refine k_blkR ?_ | refine k_blkC ?_ | refine k_blkH ?_ | refine k_blkB ?_ | refine k_blkK ?_ | refine k_blkE ?_ | refine k_reg ?_) | with_reducible refine r_done ?_ | with_reducible refine s_go (by simp (disch := omega) only [c, c78r0, c78r1, EVA, plug, eq_self, simprocAttr]; with_reducible rfl) ?_ | ((with_reducible refine chk_r ?_); refine r_callF (by simp only [CA, simprocAttr]; rfl) (by exact rfl) (by simp only [CA, simprocAttr]; rfl) rfl ?_) | (with_reducible refine k_condP (by simp only [GA, simprocAttr]; rfl) (by first | (simp only [BO]; rfl) | rfl) (fun ht => ?_) (fun ht => ?_) <;> try (first | exact False.elim ht | exact absurd rfl ht | exact absurd trivial ht | exact Bool.noConfusion ht)) | (with_reducible refine k_ret ?_; repeat with_reducible (first | refine ret_thru ?_ | refine ret_blk ?_ | refine fin ?_)) | (with_reducible refine k_exit ?_; repeat with_reducible (first | refine thru ?_ | refine out_blk ?_ | refine pass (by decide) ?_)) | ((first | refine post1 ?_ | refine post2 ?_ | refine post3 ?_); simp only [GA, simprocAttr]) | refine post0 ?_
  all_goals first | exact ends_of | exact ends_eq rfl
 ·rw [mny_fi c] at q
  repeat' first | (with_reducible first | refine k_seq ?_ | refine k_skip ?_ | refine k_blkS ?_ | refine k_blkR ?_ | refine k_blkC ?_ | refine k_blkH ?_ | refine k_blkB ?_ | refine k_blkK ?_ | refine k_blkE ?_ | refine k_reg ?_) | with_reducible refine r_done ?_ | with_reducible refine s_go (by simp (disch := omega) only [c, c78r0, c78r1, EVA, plug, eq_self, simprocAttr]; with_reducible rfl) ?_ | ((with_reducible refine chk_r ?_); refine r_callF (by simp only [CA, simprocAttr]; rfl) (by exact rfl) (by simp only [CA, simprocAttr]; rfl) rfl ?_) | ((with_reducible refine chk_r ?_); refine r_callP (by simp only [CA, simprocAttr]; rfl) (by simp only [CA, simprocAttr]; rfl) (by first | exact q _) rfl ?_) | ((with_reducible refine chk_r ?_); refine r_callG (by simp only [CA, simprocAttr]; rfl) (by simp only [CA, simprocAttr]; rfl) (by simp only [CA, simprocAttr]; rfl) (by intro hg; (try simp only [BO] at hg); first | exact q _) rfl ?_) | (with_reducible refine k_condP (by simp only [GA, simprocAttr]; rfl) (by first | (simp only [BO]; rfl) | rfl) (fun ht => ?_) (fun ht => ?_) <;> try (first | exact False.elim ht | exact absurd rfl ht | exact absurd trivial ht | exact Bool.noConfusion ht)) | (with_reducible refine k_ret ?_; repeat with_reducible (first | refine ret_thru ?_ | refine ret_blk ?_ | refine fin ?_)) | (with_reducible refine k_exit ?_; repeat with_reducible (first | refine thru ?_ | refine out_blk ?_ | refine pass (by decide) ?_)) | ((first | refine post1 ?_ | refine post2 ?_ | refine post3 ?_); simp only [GA, simprocAttr]) | refine post0 ?_
  all_goals first | exact ends_of | exact ends_eq rfl
def RW (runs : List (List Rn)) : Prop := ∀ row ∈ runs, ∀ r ∈ row, i64 r.fro ∧ i64 r.til
theorem RW.at {runs : List (List Rn)} (h : RW runs) {b k : Nat} (hb : b < runs.length) (hk : k < (rw_ runs b).length) : i64 (rnD (rw_ runs b) k).fro ∧ i64 (rnD (rw_ runs b) k).til :=
 h (rw_ runs b) (by simp only [rw_]; rw [getD_lt hb]; exact List.getElem_mem hb) _ (by simp only [rnD]; rw [getD_lt hk]; exact List.getElem_mem hk)
theorem no_mny {runs : List (List Rn)} (h : ¬ mny runs) : runs.length ≤ 8 ∧ ∀ b, b < runs.length → (rw_ runs b).length ≤ 100 := by
 unfold mny at h
 simp only [not_or, not_exists, not_and, Nat.not_lt] at h
 exact h
theorem flR_take (row : List Rn) (k : Nat) : (fl eR row).take (k * 4) = fl eR (row.take k) := fl_take eR_len row k
theorem aft_len (l : List B) (c : Int) (us : List Bool) (row : List Rn) (k : Nat) : (aft l c us row k).length = us.length := by unfold aft mrk; split <;> simp
theorem fi_all (us : List Bool) : decide (0 ≤ fi (noB us) us.length) = !us.all id := by
 rw [Bool.eq_iff_iff, decide_eq_true_eq, fi_ge, Bool.not_eq_true', List.all_eq_false]
 constructor
 ·rintro ⟨j, hj, q⟩
  refine ⟨us[j], List.getElem_mem hj, ?_⟩
  rw [noB, getD_lt hj] at q
  intro z
  simp only [id] at z
  rw [z] at q; cases q
 ·rintro ⟨x, hx, q⟩
  obtain ⟨j, hj, e⟩ := List.getElem_of_mem hx
  refine ⟨j, hj, ?_⟩
  rw [noB, getD_lt hj, e]
  cases x
  ·rfl
  ·exact absurd rfl q
theorem RG42 : (type_of% @c42r0.eq_1) ∧ (type_of% @c42r1.eq_1) ∧ (type_of% @c42r2.eq_1) ∧ (type_of% @c42r3.eq_1) ∧ (type_of% @c42r4.eq_1) ∧ (type_of% @c42r5.eq_1) ∧ (type_of% @c42r6.eq_1) ∧ (type_of% @c42r7.eq_1) ∧ (type_of% @c42r8.eq_1) ∧ (type_of% @c42r9.eq_1) ∧ (type_of% @c42r10.eq_1) ∧ (type_of% @c42r11.eq_1) ∧ (type_of% @c42r12.eq_1) ∧ (type_of% @c42r13.eq_1) ∧ (type_of% @c42r14.eq_1) ∧ (type_of% @c42r15.eq_1) ∧ (type_of% @c42r17.eq_1) ∧ (type_of% @c42r19.eq_1) ∧ (type_of% @c42r20.eq_1) ∧ (type_of% @c42r21.eq_1) := ⟨@c42r0.eq_1, @c42r1.eq_1, @c42r2.eq_1, @c42r3.eq_1, @c42r4.eq_1, @c42r5.eq_1, @c42r6.eq_1, @c42r7.eq_1, @c42r8.eq_1, @c42r9.eq_1, @c42r10.eq_1, @c42r11.eq_1, @c42r12.eq_1, @c42r13.eq_1, @c42r14.eq_1, @c42r15.eq_1, @c42r17.eq_1, @c42r19.eq_1, @c42r20.eq_1, @c42r21.eq_1⟩
set_option maxHeartbeats 4000000 in
theorem pc42 (l : List B) (hl : l.length ≤ 9223372036854775807) (c : Int) (runs : List (List Rn)) (hn : runs.length ≤ 9223372036854775807) (rw : RW runs) : PC Try.prog 42 [vB l, .i .i64 c, vRR runs] (.tu [.i .i64 (jdR l c runs).1, .i .i64 (jdR l c runs).2.1, .i .i64 (jdR l c runs).2.2]) := by
 refine pc_fn fn42 (by simp only [AV.plains, AV.plain, il_plain, bl_plain, Bool.and_true, Bool.true_and, Bool.and_self, flB_plain, vRR_plain]) (by simp only [AV.plains, AV.plain, il_plain, bl_plain, Bool.and_true, Bool.true_and, Bool.and_self, flB_plain, vRR_plain]) (Nat.le_of_ble_eq_true rfl) ?_
 rw [initSt3]
 have q26 := pc26 l hl
 have q63 := pc63 0 c 100
 have e63 : (decide (0 ≤ c) && decide (c ≤ 100)) = decide (0 ≤ c ∧ c ≤ 100) := by simp
 rw [e63] at q63
 have q78 := pc78 runs hn
 by_cases hv : VL l
 rotate_left
 ·rw [vl_f hv] at q26
  rw [jd_err hv]
  repeat' first | (with_reducible first | refine k_seq ?_ | refine k_skip ?_ | refine k_blkS ?_ | refine k_blkR ?_ | refine k_blkC ?_ | refine k_blkH ?_ | refine k_blkB ?_ | refine k_blkK ?_ | refine k_blkE ?_ | refine k_reg ?_) | with_reducible refine k_head (by with_unfolding_all rfl) ?_ | with_reducible refine k_headS ?_ | (with_reducible refine SepK.mk ?_ ?_; (refine sepQ_P ?_; simp [sepQ, sepG, AOp.late, AOp.free, AOp.xs, AOp.isAl, tokNe, AV.tok, stS_get, strip, AX.val, RG42, GA]; try omega)) | with_reducible refine r_done ?_ | with_reducible refine hr_done ?_ | with_reducible refine s_go (by simp (disch := omega) only [RG42, EVA, plug, eq_self, simprocAttr]; with_reducible rfl) ?_ | with_reducible refine h_go (by with_unfolding_all rfl) (by simp (disch := omega) only [RG42, EVA, plug, eq_self, simprocAttr]; with_reducible rfl) ?_ | ((with_reducible refine chk_r ?_); refine r_callF (by simp only [CA, simprocAttr]; rfl) (by exact rfl) (by simp only [CA, simprocAttr]; rfl) rfl ?_) | ((with_reducible refine chk_h ?_); refine hr_callF (by simp only [CA, simprocAttr]; rfl) (by exact rfl) (by simp only [CA, simprocAttr]; rfl) rfl ?_) | ((with_reducible refine chk_r ?_); refine r_callP (by simp only [CA, simprocAttr]; rfl) (by simp only [CA, simprocAttr]; rfl) (by first | exact q26 _) rfl ?_) | ((with_reducible refine chk_h ?_); refine hr_callP (by simp only [CA, simprocAttr]; rfl) (by simp only [CA, simprocAttr]; rfl) (by first | exact q26 _) rfl ?_) | ((with_reducible refine chk_h ?_); refine hr_callP1 (by simp only [CA, simprocAttr]; rfl) (by simp only [CA, simprocAttr]; rfl) (by simp (disch := omega) only [CA, Nat.reduceEqDiff, ↓reduceIte, firstTok_nil, firstTok_sl, firstTok_sl0, firstTok_i, firstTok_b, firstTok_ag, firstTok_p, firstTok_s]; rfl) (by first | exact q26 _) rfl ?_) | ((with_reducible refine chk_r ?_); refine r_callG (by simp only [CA, simprocAttr]; rfl) (by simp only [CA, simprocAttr]; rfl) (by simp only [CA, simprocAttr]; rfl) (by intro hg; (try simp only [BO] at hg); first | exact q26 _) rfl ?_) | ((with_reducible refine chk_h ?_); refine hr_callG (by simp only [CA, simprocAttr]; rfl) (by simp only [CA, simprocAttr]; rfl) (by simp only [CA, simprocAttr]; rfl) (by intro hg; (try simp only [BO] at hg); first | exact q26 _) rfl ?_) | ((with_reducible refine chk_h ?_); refine hr_app (by simp (disch := omega) only [RG42, EVA, plug, eq_self, simprocAttr]; with_reducible rfl) rfl ?_) | (with_reducible refine k_condP (by simp only [GA, simprocAttr]; rfl) (by first | (simp only [BO]; rfl) | rfl) (fun ht => ?_) (fun ht => ?_) <;> try (first | exact False.elim ht | exact absurd rfl ht | exact absurd trivial ht | exact Bool.noConfusion ht)) | (with_reducible refine k_ret ?_; repeat with_reducible (first | refine ret_thru ?_ | refine ret_blk ?_ | refine fin ?_)) | (with_reducible refine k_exit ?_; repeat with_reducible (first | refine thru ?_ | refine out_blk ?_ | refine pass (by decide) ?_)) | ((first | refine post1 ?_ | refine post2 ?_ | refine post3 ?_); simp only [GA, simprocAttr]) | refine post0 ?_
  all_goals first | exact ends_of | exact ends_eq rfl
 rw [vl_t hv] at q26
 by_cases hc : 0 ≤ c ∧ c ≤ 100
 rotate_left
 ·rw [decide_eq_false hc] at q63
  rw [jd_arg hv (fun q => hc q.1)]
  repeat' first | (with_reducible first | refine k_seq ?_ | refine k_skip ?_ | refine k_blkS ?_ | refine k_blkR ?_ | refine k_blkC ?_ | refine k_blkH ?_ | refine k_blkB ?_ | refine k_blkK ?_ | refine k_blkE ?_ | refine k_reg ?_) | with_reducible refine k_head (by with_unfolding_all rfl) ?_ | with_reducible refine k_headS ?_ | (with_reducible refine SepK.mk ?_ ?_; (refine sepQ_P ?_; simp [sepQ, sepG, AOp.late, AOp.free, AOp.xs, AOp.isAl, tokNe, AV.tok, stS_get, strip, AX.val, RG42, GA]; try omega)) | with_reducible refine r_done ?_ | with_reducible refine hr_done ?_ | with_reducible refine s_go (by simp (disch := omega) only [RG42, EVA, plug, eq_self, simprocAttr]; with_reducible rfl) ?_ | with_reducible refine h_go (by with_unfolding_all rfl) (by simp (disch := omega) only [RG42, EVA, plug, eq_self, simprocAttr]; with_reducible rfl) ?_ | ((with_reducible refine chk_r ?_); refine r_callF (by simp only [CA, simprocAttr]; rfl) (by exact rfl) (by simp only [CA, simprocAttr]; rfl) rfl ?_) | ((with_reducible refine chk_h ?_); refine hr_callF (by simp only [CA, simprocAttr]; rfl) (by exact rfl) (by simp only [CA, simprocAttr]; rfl) rfl ?_) | ((with_reducible refine chk_r ?_); refine r_callP (by simp only [CA, simprocAttr]; rfl) (by simp only [CA, simprocAttr]; rfl) (by first | exact q26 _ | exact q63 _) rfl ?_) | ((with_reducible refine chk_h ?_); refine hr_callP (by simp only [CA, simprocAttr]; rfl) (by simp only [CA, simprocAttr]; rfl) (by first | exact q26 _ | exact q63 _) rfl ?_) | ((with_reducible refine chk_h ?_); refine hr_callP1 (by simp only [CA, simprocAttr]; rfl) (by simp only [CA, simprocAttr]; rfl) (by simp (disch := omega) only [CA, Nat.reduceEqDiff, ↓reduceIte, firstTok_nil, firstTok_sl, firstTok_sl0, firstTok_i, firstTok_b, firstTok_ag, firstTok_p, firstTok_s]; rfl) (by first | exact q26 _ | exact q63 _) rfl ?_) | ((with_reducible refine chk_r ?_); refine r_callG (by simp only [CA, simprocAttr]; rfl) (by simp only [CA, simprocAttr]; rfl) (by simp only [CA, simprocAttr]; rfl) (by intro hg; (try simp only [BO] at hg); first | exact q26 _ | exact q63 _) rfl ?_) | ((with_reducible refine chk_h ?_); refine hr_callG (by simp only [CA, simprocAttr]; rfl) (by simp only [CA, simprocAttr]; rfl) (by simp only [CA, simprocAttr]; rfl) (by intro hg; (try simp only [BO] at hg); first | exact q26 _ | exact q63 _) rfl ?_) | ((with_reducible refine chk_h ?_); refine hr_app (by simp (disch := omega) only [RG42, EVA, plug, eq_self, simprocAttr]; with_reducible rfl) rfl ?_) | (with_reducible refine k_condP (by simp only [GA, simprocAttr]; rfl) (by first | (simp only [BO]; rfl) | rfl) (fun ht => ?_) (fun ht => ?_) <;> try (first | exact False.elim ht | exact absurd rfl ht | exact absurd trivial ht | exact Bool.noConfusion ht)) | (with_reducible refine k_ret ?_; repeat with_reducible (first | refine ret_thru ?_ | refine ret_blk ?_ | refine fin ?_)) | (with_reducible refine k_exit ?_; repeat with_reducible (first | refine thru ?_ | refine out_blk ?_ | refine pass (by decide) ?_)) | ((first | refine post1 ?_ | refine post2 ?_ | refine post3 ?_); simp only [GA, simprocAttr]) | refine post0 ?_
  all_goals first | exact ends_of | exact ends_eq rfl
 rw [decide_eq_true hc] at q63
 by_cases hm : mny runs
 ·rw [mb_t hm] at q78
  rw [jd_arg hv (fun q => q.2 hm)]
  repeat' first | (with_reducible first | refine k_seq ?_ | refine k_skip ?_ | refine k_blkS ?_ | refine k_blkR ?_ | refine k_blkC ?_ | refine k_blkH ?_ | refine k_blkB ?_ | refine k_blkK ?_ | refine k_blkE ?_ | refine k_reg ?_) | with_reducible refine k_head (by with_unfolding_all rfl) ?_ | with_reducible refine k_headS ?_ | (with_reducible refine SepK.mk ?_ ?_; (refine sepQ_P ?_; simp [sepQ, sepG, AOp.late, AOp.free, AOp.xs, AOp.isAl, tokNe, AV.tok, stS_get, strip, AX.val, RG42, GA]; try omega)) | with_reducible refine r_done ?_ | with_reducible refine hr_done ?_ | with_reducible refine s_go (by simp (disch := omega) only [RG42, EVA, plug, eq_self, simprocAttr]; with_reducible rfl) ?_ | with_reducible refine h_go (by with_unfolding_all rfl) (by simp (disch := omega) only [RG42, EVA, plug, eq_self, simprocAttr]; with_reducible rfl) ?_ | ((with_reducible refine chk_r ?_); refine r_callF (by simp only [CA, simprocAttr]; rfl) (by exact rfl) (by simp only [CA, simprocAttr]; rfl) rfl ?_) | ((with_reducible refine chk_h ?_); refine hr_callF (by simp only [CA, simprocAttr]; rfl) (by exact rfl) (by simp only [CA, simprocAttr]; rfl) rfl ?_) | ((with_reducible refine chk_r ?_); refine r_callP (by simp only [CA, simprocAttr]; rfl) (by simp only [CA, simprocAttr]; rfl) (by first | exact q26 _ | exact q63 _ | exact q78 _) rfl ?_) | ((with_reducible refine chk_h ?_); refine hr_callP (by simp only [CA, simprocAttr]; rfl) (by simp only [CA, simprocAttr]; rfl) (by first | exact q26 _ | exact q63 _ | exact q78 _) rfl ?_) | ((with_reducible refine chk_h ?_); refine hr_callP1 (by simp only [CA, simprocAttr]; rfl) (by simp only [CA, simprocAttr]; rfl) (by simp (disch := omega) only [CA, Nat.reduceEqDiff, ↓reduceIte, firstTok_nil, firstTok_sl, firstTok_sl0, firstTok_i, firstTok_b, firstTok_ag, firstTok_p, firstTok_s]; rfl) (by first | exact q26 _ | exact q63 _ | exact q78 _) rfl ?_) | ((with_reducible refine chk_r ?_); refine r_callG (by simp only [CA, simprocAttr]; rfl) (by simp only [CA, simprocAttr]; rfl) (by simp only [CA, simprocAttr]; rfl) (by intro hg; (try simp only [BO] at hg); first | exact q26 _ | exact q63 _ | exact q78 _) rfl ?_) | ((with_reducible refine chk_h ?_); refine hr_callG (by simp only [CA, simprocAttr]; rfl) (by simp only [CA, simprocAttr]; rfl) (by simp only [CA, simprocAttr]; rfl) (by intro hg; (try simp only [BO] at hg); first | exact q26 _ | exact q63 _ | exact q78 _) rfl ?_) | ((with_reducible refine chk_h ?_); refine hr_app (by simp (disch := omega) only [RG42, EVA, plug, eq_self, simprocAttr]; with_reducible rfl) rfl ?_) | (with_reducible refine k_condP (by simp only [GA, simprocAttr]; rfl) (by first | (simp only [BO]; rfl) | rfl) (fun ht => ?_) (fun ht => ?_) <;> try (first | exact False.elim ht | exact absurd rfl ht | exact absurd trivial ht | exact Bool.noConfusion ht)) | (with_reducible refine k_ret ?_; repeat with_reducible (first | refine ret_thru ?_ | refine ret_blk ?_ | refine fin ?_)) | (with_reducible refine k_exit ?_; repeat with_reducible (first | refine thru ?_ | refine out_blk ?_ | refine pass (by decide) ?_)) | ((first | refine post1 ?_ | refine post2 ?_ | refine post3 ?_); simp only [GA, simprocAttr]) | refine post0 ?_
  all_goals first | exact ends_of | exact ends_eq rfl
 rw [mb_f hm] at q78
 obtain ⟨r8, r100⟩ := no_mny hm
 have l6 := hv.len
 rw [jd_go hv ⟨hc, hm⟩]
 repeat' first | (with_reducible first | refine k_seq ?_ | refine k_skip ?_ | refine k_blkS ?_ | refine k_blkR ?_ | refine k_blkC ?_ | refine k_blkH ?_ | refine k_blkB ?_ | refine k_blkK ?_ | refine k_blkE ?_ | refine k_reg ?_) | with_reducible refine k_head (by with_unfolding_all rfl) ?_ | with_reducible refine k_headS ?_ | (with_reducible refine SepK.mk ?_ ?_; (refine sepQ_P ?_; simp [sepQ, sepG, AOp.late, AOp.free, AOp.xs, AOp.isAl, tokNe, AV.tok, stS_get, strip, AX.val, RG42, GA]; try omega)) | with_reducible refine r_done ?_ | with_reducible refine hr_done ?_ | with_reducible refine s_go (by simp (disch := omega) only [RG42, EVA, plug, eq_self, simprocAttr]; with_reducible rfl) ?_ | with_reducible refine h_go (by with_unfolding_all rfl) (by simp (disch := omega) only [RG42, EVA, plug, eq_self, simprocAttr]; with_reducible rfl) ?_ | ((with_reducible refine chk_r ?_); refine r_callF (by simp only [CA, simprocAttr]; rfl) (by exact rfl) (by simp only [CA, simprocAttr]; rfl) rfl ?_) | ((with_reducible refine chk_h ?_); refine hr_callF (by simp only [CA, simprocAttr]; rfl) (by exact rfl) (by simp only [CA, simprocAttr]; rfl) rfl ?_) | ((with_reducible refine chk_r ?_); refine r_callP (by simp only [CA, simprocAttr]; rfl) (by simp only [CA, simprocAttr]; rfl) (by first | exact q26 _ | exact q63 _ | exact q78 _) rfl ?_) | ((with_reducible refine chk_h ?_); refine hr_callP (by simp only [CA, simprocAttr]; rfl) (by simp only [CA, simprocAttr]; rfl) (by first | exact q26 _ | exact q63 _ | exact q78 _) rfl ?_) | ((with_reducible refine chk_h ?_); refine hr_callP1 (by simp only [CA, simprocAttr]; rfl) (by simp only [CA, simprocAttr]; rfl) (by simp (disch := omega) only [CA, Nat.reduceEqDiff, ↓reduceIte, firstTok_nil, firstTok_sl, firstTok_sl0, firstTok_i, firstTok_b, firstTok_ag, firstTok_p, firstTok_s]; rfl) (by first | exact q26 _ | exact q63 _ | exact q78 _) rfl ?_) | ((with_reducible refine chk_r ?_); refine r_callG (by simp only [CA, simprocAttr]; rfl) (by simp only [CA, simprocAttr]; rfl) (by simp only [CA, simprocAttr]; rfl) (by intro hg; (try simp only [BO] at hg); first | exact q26 _ | exact q63 _ | exact q78 _) rfl ?_) | ((with_reducible refine chk_h ?_); refine hr_callG (by simp only [CA, simprocAttr]; rfl) (by simp only [CA, simprocAttr]; rfl) (by simp only [CA, simprocAttr]; rfl) (by intro hg; (try simp only [BO] at hg); first | exact q26 _ | exact q63 _ | exact q78 _) rfl ?_) | ((with_reducible refine chk_h ?_); refine hr_app (by simp (disch := omega) only [RG42, EVA, plug, eq_self, simprocAttr]; with_reducible rfl) rfl ?_) | (with_reducible refine k_condP (by simp only [GA, simprocAttr]; rfl) (by first | (simp only [BO]; rfl) | rfl) (fun ht => ?_) (fun ht => ?_) <;> try (first | exact False.elim ht | exact absurd rfl ht | exact absurd trivial ht | exact Bool.noConfusion ht)) | (with_reducible refine k_ret ?_; repeat with_reducible (first | refine ret_thru ?_ | refine ret_blk ?_ | refine fin ?_)) | (with_reducible refine k_exit ?_; repeat with_reducible (first | refine thru ?_ | refine out_blk ?_ | refine pass (by decide) ?_)) | ((first | refine post1 ?_ | refine post2 ?_ | refine post3 ?_); simp only [GA, simprocAttr]) | refine post0 ?_
 refine k_blk (k_loopS (X := Nat × Nat × List Bool) [9, 34, 35, 36] runs.length (fun b x => [(9, .p x.1 0), (34, vRR runs), (35, .i .i64 runs.length), (36, .i .i64 (b : Int))])
  (fun b x h => h.m x.1 = some (.cells true [vB l, .i .i64 c, .sl x.2.1 0 l.length 1]) ∧ h.m x.2.1 = some (.cells true (bl x.2.2)) ∧ x.1 ≠ x.2.1 ∧ x.2.2.length = l.length ∧ jrows l c runs runs.length 0 (List.replicate l.length false) = jrows l c runs (runs.length - b) b x.2.2) (_, _, List.replicate l.length false) (by simp only [Am.keep, List.map_cons, List.map_nil, GA, simprocAttr]; try rfl) ⟨by simp (disch := omega) only [RG42, EVA, plug, eq_self, simprocAttr] <;> rfl, by simp (disch := omega) only [bl_rep, RG42, EVA, plug, eq_self, simprocAttr] <;> rfl, ?_, by simp, rfl⟩ ?_)
 ·simp only [AH.bump_nx]; omega
 rintro b ⟨tp, td, us⟩ h hb ⟨hp, hd, hne, hu, J⟩ ok pos
 simp only at hp hd hne hu J ⊢
 have lp := ok.m hp
 have lt := ok.m hd
 by_cases blt : b < runs.length
 ·have blt' : (b : Int) < runs.length := by omega
  have g := vrr_get blt
  have rl := r100 b blt
  have rwb := fun k hk => rw.at (b := b) (k := k) blt hk
  generalize hrow : rw_ runs b = row at *
  repeat' first | (with_reducible first | refine k_seq ?_ | refine k_skip ?_ | refine k_blkS ?_ | refine k_blkR ?_ | refine k_blkC ?_ | refine k_blkH ?_ | refine k_blkB ?_ | refine k_blkK ?_ | refine k_blkE ?_ | refine k_reg ?_) | with_reducible refine k_head (by with_unfolding_all rfl) ?_ | with_reducible refine k_headS ?_ | (with_reducible refine SepK.mk ?_ ?_; (refine sepQ_P ?_; simp [sepQ, sepG, AOp.late, AOp.free, AOp.xs, AOp.isAl, tokNe, AV.tok, stS_get, strip, AX.val, RG42, GA]; try omega)) | with_reducible refine r_done ?_ | with_reducible refine hr_done ?_ | with_reducible refine s_go (by simp (disch := omega) only [blt', g, RG42, EVA, plug, eq_self, simprocAttr]; with_reducible rfl) ?_ | with_reducible refine h_go (by with_unfolding_all rfl) (by simp (disch := omega) only [blt', g, RG42, EVA, plug, eq_self, simprocAttr]; with_reducible rfl) ?_ | ((with_reducible refine chk_r ?_); refine r_callF (by simp only [CA, simprocAttr]; rfl) (by exact rfl) (by simp only [CA, simprocAttr]; rfl) rfl ?_) | ((with_reducible refine chk_h ?_); refine hr_callF (by simp only [CA, simprocAttr]; rfl) (by exact rfl) (by simp only [CA, simprocAttr]; rfl) rfl ?_) | ((with_reducible refine chk_h ?_); refine hr_app (by simp (disch := omega) only [blt', g, RG42, EVA, plug, eq_self, simprocAttr]; with_reducible rfl) rfl ?_) | (with_reducible refine k_condP (by simp only [GA, simprocAttr]; rfl) (by first | (simp only [BO]; rfl) | rfl) (fun ht => ?_) (fun ht => ?_) <;> try (first | exact False.elim ht | exact absurd rfl ht | exact absurd trivial ht | exact Bool.noConfusion ht)) | (with_reducible refine k_ret ?_; repeat with_reducible (first | refine ret_thru ?_ | refine ret_blk ?_ | refine fin ?_)) | (with_reducible refine k_exit ?_; repeat with_reducible (first | refine thru ?_ | refine out_blk ?_ | refine pass (by decide) ?_)) | ((first | refine post1 ?_ | refine post2 ?_ | refine post3 ?_); simp only [GA, simprocAttr]) | refine post0 ?_
  refine k_blk (k_loopS (X := List Bool) [9, 10, 11, 34, 35, 36, 41, 42, 43] row.length (fun k us => [(9, .p tp 0), (10, .i .i64 (b : Int)), (11, .vs row.length (fl eR row)), (34, vRR runs), (35, .i .i64 runs.length), (36, .i .i64 (b : Int)), (41, .vs row.length (fl eR row)), (42, .i .i64 row.length), (43, .i .i64 (k : Int))])
   (fun k us1 h => h.m tp = some (.cells true [vB l, .i .i64 c, .sl td 0 l.length 1]) ∧ h.m td = some (.cells true (bl us1)) ∧ us1.length = l.length ∧ jrow l c row row.length 0 us = jrow l c row (row.length - k) k us1 ∧ IXr l row k) us (by simp only [Am.keep, List.map_cons, List.map_nil, GA, simprocAttr]; try rfl) ⟨by simp (disch := omega) only [hp, RG42, EVA, plug, eq_self, simprocAttr], by simp (disch := omega) only [hd, RG42, EVA, plug, eq_self, simprocAttr], hu, rfl, fun j hj => by omega⟩ ?_)
  rintro k us1 h1 hk ⟨hp1, hd1, hu1, K, ixr⟩ ok1 pos1
  have lp1 := ok1.m hp1
  have lt1 := ok1.m hd1
  by_cases klt : k < row.length
  ·have klt' : (k : Int) < row.length := by omega
   have gr := rdR klt
   obtain ⟨w1, w2⟩ := rwb k klt
   have q79 := fun h hp hd => f79 tp td l hv c hc us1 hu1 row k klt (by omega) ixr w1 w2 h hne hp hd
   have al := aft_len l c us1 row k
   have ek : erJ l c us1 row k = 0 → jrow l c row row.length 0 us = jrow l c row (row.length - (k + 1)) (k + 1) (aft l c us1 row k) ∧ IXr l row (k + 1) := fun e => by
    refine ⟨by rw [K, jrow_ok klt e, aft_ok e], fun j hj => ?_⟩
    by_cases q : j = k
    ·subst q
     refine Classical.byContradiction fun z => ?_
     rw [er_arg (.inl z)] at e; cases e
    ·exact ixr j (by omega)
   have en : erJ l c us1 row k ≠ 0 → jrow l c row row.length 0 us = (k, erJ l c us1 row k, us1) := fun e => by rw [K, jrow_no klt rfl e]
   generalize aft l c us1 row k = us2 at *
   generalize erJ l c us1 row k = e at *
   simp only [eR] at gr q79
   repeat' first | (with_reducible first | refine k_seq ?_ | refine k_skip ?_ | refine k_blkS ?_ | refine k_blkR ?_ | refine k_blkC ?_ | refine k_blkH ?_ | refine k_blkB ?_ | refine k_blkK ?_ | refine k_blkE ?_ | refine k_reg ?_) | with_reducible refine k_head (by with_unfolding_all rfl) ?_ | with_reducible refine k_headS ?_ | (with_reducible refine SepK.mk ?_ ?_; (refine sepQ_P ?_; simp [sepQ, sepG, AOp.late, AOp.free, AOp.xs, AOp.isAl, tokNe, AV.tok, stS_get, strip, AX.val, RG42, GA]; try omega)) | with_reducible refine r_done ?_ | with_reducible refine hr_done ?_ | with_reducible refine s_go (by simp (disch := omega) only [klt', gr, flR_take, RG42, EVA, plug, eq_self, simprocAttr]; with_reducible rfl) ?_ | with_reducible refine h_go (by with_unfolding_all rfl) (by simp (disch := omega) only [klt', gr, flR_take, RG42, EVA, plug, eq_self, simprocAttr]; with_reducible rfl) ?_ | ((with_reducible refine chk_r ?_); refine r_callF (by simp only [CA, simprocAttr]; rfl) (by exact rfl) (by simp only [CA, simprocAttr]; rfl) rfl ?_) | ((with_reducible refine chk_h ?_); refine hr_callF (by simp only [CA, simprocAttr]; rfl) (by exact rfl) (by simp only [CA, simprocAttr]; rfl) rfl ?_) | ((with_reducible refine chk_h ?_); refine hr_app (by simp (disch := omega) only [klt', gr, flR_take, RG42, EVA, plug, eq_self, simprocAttr]; with_reducible rfl) rfl ?_) | ((with_reducible refine chk_r ?_); refine r_callX (by simp only [CA, simprocAttr]; rfl) (by simp only [CA, simprocAttr]; rfl) (by first | ((refine q79 _ ?_ ?_ <;> simp (disch := omega) only [hp1, hd1, RG42, EVA, plug, eq_self, simprocAttr]); all_goals fail)) rfl ?_) | ((with_reducible refine chk_r ?_); refine r_callTX (by first | (simp only [CA, simprocAttr]; rfl) | simp only [CA, simprocAttr]) (by simp only [CA, simprocAttr]; rfl) (by simp only [CA, simprocAttr]; rfl) (by first | ((refine q79 _ ?_ ?_ <;> simp (disch := omega) only [hp1, hd1, RG42, EVA, plug, eq_self, simprocAttr]); all_goals fail)) rfl ?_) | (with_reducible refine k_condP (by simp only [GA, simprocAttr]; rfl) (by first | (simp only [BO]; rfl) | rfl) (fun ht => ?_) (fun ht => ?_) <;> try (first | exact False.elim ht | exact absurd rfl ht | exact absurd trivial ht | exact Bool.noConfusion ht)) | (with_reducible refine k_ret ?_; repeat with_reducible (first | refine ret_thru ?_ | refine ret_blk ?_ | refine fin ?_)) | (with_reducible refine k_exit ?_; repeat with_reducible (first | refine thru ?_ | refine out_blk ?_ | refine pass (by decide) ?_)) | ((first | refine post1 ?_ | refine post2 ?_ | refine post3 ?_); simp only [GA, simprocAttr]) | refine post0 ?_
   rintro r h2 ⟨rfl, U⟩
   have nx2 := U.nx
   have hp2 : h2.m tp = some (.cells true [vB l, .i .i64 c, .sl td 0 l.length 1]) := by rw [U.keep tp (by simp (disch := omega) only [RG42, EVA, plug, eq_self, simprocAttr]; omega) hne]; simp (disch := omega) only [hp1, RG42, EVA, plug, eq_self, simprocAttr]
   have hd2 := U.m
   clear U
   by_cases he : e = 0
   ·obtain ⟨ek1, ek2⟩ := ek he
    subst he
    repeat' first | (with_reducible first | refine k_seq ?_ | refine k_skip ?_ | refine k_blkS ?_ | refine k_blkR ?_ | refine k_blkC ?_ | refine k_blkH ?_ | refine k_blkB ?_ | refine k_blkK ?_ | refine k_blkE ?_ | refine k_reg ?_) | with_reducible refine k_head (by with_unfolding_all rfl) ?_ | with_reducible refine k_headS ?_ | (with_reducible refine SepK.mk ?_ ?_; (refine sepQ_P ?_; simp [sepQ, sepG, AOp.late, AOp.free, AOp.xs, AOp.isAl, tokNe, AV.tok, stS_get, strip, AX.val, RG42, GA]; try omega)) | with_reducible refine r_done ?_ | with_reducible refine hr_done ?_ | with_reducible refine s_go (by simp (disch := omega) only [RG42, EVA, plug, eq_self, simprocAttr]; with_reducible rfl) ?_ | with_reducible refine h_go (by with_unfolding_all rfl) (by simp (disch := omega) only [RG42, EVA, plug, eq_self, simprocAttr]; with_reducible rfl) ?_ | ((with_reducible refine chk_r ?_); refine r_callF (by simp only [CA, simprocAttr]; rfl) (by exact rfl) (by simp only [CA, simprocAttr]; rfl) rfl ?_) | ((with_reducible refine chk_h ?_); refine hr_callF (by simp only [CA, simprocAttr]; rfl) (by exact rfl) (by simp only [CA, simprocAttr]; rfl) rfl ?_) | ((with_reducible refine chk_h ?_); refine hr_app (by simp (disch := omega) only [RG42, EVA, plug, eq_self, simprocAttr]; with_reducible rfl) rfl ?_) | (with_reducible refine k_condP (by simp only [GA, simprocAttr]; rfl) (by first | (simp only [BO]; rfl) | rfl) (fun ht => ?_) (fun ht => ?_) <;> try (first | exact False.elim ht | exact absurd rfl ht | exact absurd trivial ht | exact Bool.noConfusion ht)) | (with_reducible refine k_ret ?_; repeat with_reducible (first | refine ret_thru ?_ | refine ret_blk ?_ | refine fin ?_)) | (with_reducible refine k_exit ?_; repeat with_reducible (first | refine thru ?_ | refine out_blk ?_ | refine pass (by decide) ?_)) | ((first | refine post1 ?_ | refine post2 ?_ | refine post3 ?_); simp only [GA, simprocAttr]) | refine post0 ?_
    exact ⟨klt, us2, (by simp only [Am.keep, List.map_cons, List.map_nil, GA, simprocAttr]; try rfl), by simp (disch := omega) only [hp2, RG42, EVA, plug, eq_self, simprocAttr], by simp (disch := omega) only [hd2, RG42, EVA, plug, eq_self, simprocAttr], by rw [al]; exact hu1, ek1, ek2⟩
   ·have T : jrows l c runs runs.length 0 (List.replicate l.length false) = (b, k, e) := by rw [J, jrows_no blt (by rw [hrow]; exact en he) he]
    rw [T]
    repeat' first | (with_reducible first | refine k_seq ?_ | refine k_skip ?_ | refine k_blkS ?_ | refine k_blkR ?_ | refine k_blkC ?_ | refine k_blkH ?_ | refine k_blkB ?_ | refine k_blkK ?_ | refine k_blkE ?_ | refine k_reg ?_) | with_reducible refine k_head (by with_unfolding_all rfl) ?_ | with_reducible refine k_headS ?_ | (with_reducible refine SepK.mk ?_ ?_; (refine sepQ_P ?_; simp [sepQ, sepG, AOp.late, AOp.free, AOp.xs, AOp.isAl, tokNe, AV.tok, stS_get, strip, AX.val, RG42, GA]; try omega)) | with_reducible refine r_done ?_ | with_reducible refine hr_done ?_ | with_reducible refine s_go (by simp (disch := omega) only [eq_false he, RG42, EVA, plug, eq_self, simprocAttr]; with_reducible rfl) ?_ | with_reducible refine h_go (by with_unfolding_all rfl) (by simp (disch := omega) only [eq_false he, RG42, EVA, plug, eq_self, simprocAttr]; with_reducible rfl) ?_ | ((with_reducible refine chk_r ?_); refine r_callF (by simp only [CA, simprocAttr]; rfl) (by exact rfl) (by simp only [CA, simprocAttr]; rfl) rfl ?_) | ((with_reducible refine chk_h ?_); refine hr_callF (by simp only [CA, simprocAttr]; rfl) (by exact rfl) (by simp only [CA, simprocAttr]; rfl) rfl ?_) | ((with_reducible refine chk_h ?_); refine hr_app (by simp (disch := omega) only [eq_false he, RG42, EVA, plug, eq_self, simprocAttr]; with_reducible rfl) rfl ?_) | (with_reducible refine k_condP (by simp only [GA, simprocAttr]; rfl) (by first | (simp only [BO]; rfl) | rfl) (fun ht => ?_) (fun ht => ?_) <;> try (first | exact False.elim ht | exact absurd rfl ht | exact absurd trivial ht | exact Bool.noConfusion ht)) | (with_reducible refine k_ret ?_; repeat with_reducible (first | refine ret_thru ?_ | refine ret_blk ?_ | refine fin ?_)) | (with_reducible refine k_exit ?_; repeat with_reducible (first | refine thru ?_ | refine out_blk ?_ | refine pass (by decide) ?_)) | ((first | refine post1 ?_ | refine post2 ?_ | refine post3 ?_); simp only [GA, simprocAttr]) | refine post0 ?_
    all_goals first | exact ends_of | exact ends_eq rfl
  ·obtain rfl : k = row.length := by omega
   have klt' : ¬ (row.length : Int) < row.length := by omega
   rw [jrow_end] at K
   repeat' first | (with_reducible first | refine k_seq ?_ | refine k_skip ?_ | refine k_blkS ?_ | refine k_blkR ?_ | refine k_blkC ?_ | refine k_blkH ?_ | refine k_blkB ?_ | refine k_blkK ?_ | refine k_blkE ?_ | refine k_reg ?_) | with_reducible refine k_head (by with_unfolding_all rfl) ?_ | with_reducible refine k_headS ?_ | (with_reducible refine SepK.mk ?_ ?_; (refine sepQ_P ?_; simp [sepQ, sepG, AOp.late, AOp.free, AOp.xs, AOp.isAl, tokNe, AV.tok, stS_get, strip, AX.val, RG42, GA]; try omega)) | with_reducible refine r_done ?_ | with_reducible refine hr_done ?_ | with_reducible refine s_go (by simp (disch := omega) only [klt', RG42, EVA, plug, eq_self, simprocAttr]; with_reducible rfl) ?_ | with_reducible refine h_go (by with_unfolding_all rfl) (by simp (disch := omega) only [klt', RG42, EVA, plug, eq_self, simprocAttr]; with_reducible rfl) ?_ | ((with_reducible refine chk_r ?_); refine r_callF (by simp only [CA, simprocAttr]; rfl) (by exact rfl) (by simp only [CA, simprocAttr]; rfl) rfl ?_) | ((with_reducible refine chk_h ?_); refine hr_callF (by simp only [CA, simprocAttr]; rfl) (by exact rfl) (by simp only [CA, simprocAttr]; rfl) rfl ?_) | ((with_reducible refine chk_h ?_); refine hr_app (by simp (disch := omega) only [klt', RG42, EVA, plug, eq_self, simprocAttr]; with_reducible rfl) rfl ?_) | (with_reducible refine k_condP (by simp only [GA, simprocAttr]; rfl) (by first | (simp only [BO]; rfl) | rfl) (fun ht => ?_) (fun ht => ?_) <;> try (first | exact False.elim ht | exact absurd rfl ht | exact absurd trivial ht | exact Bool.noConfusion ht)) | (with_reducible refine k_ret ?_; repeat with_reducible (first | refine ret_thru ?_ | refine ret_blk ?_ | refine fin ?_)) | (with_reducible refine k_exit ?_; repeat with_reducible (first | refine thru ?_ | refine out_blk ?_ | refine pass (by decide) ?_)) | ((first | refine post1 ?_ | refine post2 ?_ | refine post3 ?_); simp only [GA, simprocAttr]) | refine post0 ?_
   exact ⟨blt, (tp, td, us1), (by simp only [Am.keep, List.map_cons, List.map_nil, GA, simprocAttr]; try rfl), by simp (disch := omega) only [hp1, RG42, EVA, plug, eq_self, simprocAttr], by simp (disch := omega) only [hd1, RG42, EVA, plug, eq_self, simprocAttr], hne, hu1, by rw [J, jrows_ok blt (by rw [hrow]; exact K)]⟩
 ·obtain rfl : b = runs.length := by omega
  have blt' : ¬ (runs.length : Int) < runs.length := by omega
  rw [J, jrows_end]
  have q75 := pc75 us (by omega)
  rw [fi_all] at q75
  rw [hu] at q75
  cases ha : us.all id <;> rw [ha] at q75
  all_goals
   repeat' first | (with_reducible first | refine k_seq ?_ | refine k_skip ?_ | refine k_blkS ?_ | refine k_blkR ?_ | refine k_blkC ?_ | refine k_blkH ?_ | refine k_blkB ?_ | refine k_blkK ?_ | refine k_blkE ?_ | refine k_reg ?_) | with_reducible refine k_head (by with_unfolding_all rfl) ?_ | with_reducible refine k_headS ?_ | (with_reducible refine SepK.mk ?_ ?_; (refine sepQ_P ?_; simp [sepQ, sepG, AOp.late, AOp.free, AOp.xs, AOp.isAl, tokNe, AV.tok, stS_get, strip, AX.val, RG42, GA]; try omega)) | with_reducible refine r_done ?_ | with_reducible refine hr_done ?_ | with_reducible refine s_go (by simp (disch := omega) only [blt', hp, row_m hp, read_row (row_m hp), RG42, EVA, plug, eq_self, simprocAttr]; with_reducible rfl) ?_ | with_reducible refine h_go (by with_unfolding_all rfl) (by simp (disch := omega) only [blt', hp, row_m hp, read_row (row_m hp), RG42, EVA, plug, eq_self, simprocAttr]; with_reducible rfl) ?_ | ((with_reducible refine chk_r ?_); refine r_callF (by simp only [CA, simprocAttr]; rfl) (by exact rfl) (by simp only [CA, simprocAttr]; rfl) rfl ?_) | ((with_reducible refine chk_h ?_); refine hr_callF (by simp only [CA, simprocAttr]; rfl) (by exact rfl) (by simp only [CA, simprocAttr]; rfl) rfl ?_) | ((with_reducible refine chk_r ?_); refine r_callP (by simp only [CA, simprocAttr]; rfl) (by simp only [CA, simprocAttr]; rfl) (by first | ((refine PC.at q75 rfl ?_; refine .cons (.row (by simp (disch := omega) only [row_m hd, RG42, EVA, plug, eq_self, simprocAttr] <;> rfl) (bl_plain _)) (.cons (.same rfl) .nil)); all_goals fail)) rfl ?_) | ((with_reducible refine chk_h ?_); refine hr_callP (by simp only [CA, simprocAttr]; rfl) (by simp only [CA, simprocAttr]; rfl) (by first | ((refine PC.at q75 rfl ?_; refine .cons (.row (by simp (disch := omega) only [row_m hd, RG42, EVA, plug, eq_self, simprocAttr] <;> rfl) (bl_plain _)) (.cons (.same rfl) .nil)); all_goals fail)) rfl ?_) | ((with_reducible refine chk_h ?_); refine hr_callP1 (by simp only [CA, simprocAttr]; rfl) (by simp only [CA, simprocAttr]; rfl) (by simp (disch := omega) only [CA, Nat.reduceEqDiff, ↓reduceIte, firstTok_nil, firstTok_sl, firstTok_sl0, firstTok_i, firstTok_b, firstTok_ag, firstTok_p, firstTok_s]; rfl) (by first | ((refine PC.at q75 rfl ?_; refine .cons (.row (by simp (disch := omega) only [row_m hd, RG42, EVA, plug, eq_self, simprocAttr] <;> rfl) (bl_plain _)) (.cons (.same rfl) .nil)); all_goals fail)) rfl ?_) | ((with_reducible refine chk_r ?_); refine r_callG (by simp only [CA, simprocAttr]; rfl) (by simp only [CA, simprocAttr]; rfl) (by simp only [CA, simprocAttr]; rfl) (by intro hg; (try simp only [BO] at hg); first | ((refine PC.at q75 rfl ?_; refine .cons (.row (by simp (disch := omega) only [row_m hd, RG42, EVA, plug, eq_self, simprocAttr] <;> rfl) (bl_plain _)) (.cons (.same rfl) .nil)); all_goals fail)) rfl ?_) | ((with_reducible refine chk_h ?_); refine hr_callG (by simp only [CA, simprocAttr]; rfl) (by simp only [CA, simprocAttr]; rfl) (by simp only [CA, simprocAttr]; rfl) (by intro hg; (try simp only [BO] at hg); first | ((refine PC.at q75 rfl ?_; refine .cons (.row (by simp (disch := omega) only [row_m hd, RG42, EVA, plug, eq_self, simprocAttr] <;> rfl) (bl_plain _)) (.cons (.same rfl) .nil)); all_goals fail)) rfl ?_) | ((with_reducible refine chk_h ?_); refine hr_app (by simp (disch := omega) only [blt', hp, row_m hp, read_row (row_m hp), RG42, EVA, plug, eq_self, simprocAttr]; with_reducible rfl) rfl ?_) | (with_reducible refine k_condP (by simp only [GA, simprocAttr]; rfl) (by first | (simp only [BO]; rfl) | rfl) (fun ht => ?_) (fun ht => ?_) <;> try (first | exact False.elim ht | exact absurd rfl ht | exact absurd trivial ht | exact Bool.noConfusion ht)) | (with_reducible refine k_ret ?_; repeat with_reducible (first | refine ret_thru ?_ | refine ret_blk ?_ | refine fin ?_)) | (with_reducible refine k_exit ?_; repeat with_reducible (first | refine thru ?_ | refine out_blk ?_ | refine pass (by decide) ?_)) | ((first | refine post1 ?_ | refine post2 ?_ | refine post3 ?_); simp only [GA, simprocAttr]) | refine post0 ?_
   all_goals first | exact ends_of | exact ends_eq rfl
end Go.Proofs.Ytjncfpfgobojpaa
set_option linter.unusedVariables false
set_option linter.unusedSimpArgs false
namespace Go.Proofs.Ytjncfpfgobojpaa
open Go Go.Am Go.Proofs Go.Sort
abbrev ct (us : List Bool) : Int := (us.count true : Nat)
theorem ct_le (us : List Bool) : ct us ≤ us.length := by have := List.count_le_length (a := true) (l := us); unfold ct; omega
theorem ct_zero (n : Nat) : ct (List.replicate n false) = 0 := by simp [ct, List.count_replicate]
theorem ct_set {us : List Bool} {a : Nat} (h : a < us.length) (hb : us.getD a false = false) : ct (us.set a true) = ct us + 1 := by
 unfold ct
 rw [List.count_set h]
 rw [getD_lt h] at hb
 simp [hb]
def endv (row : List Rn) (k : Nat) : Int := if k = 0 then 0 else (rnD row (k - 1)).til
theorem endv_succ (row : List Rn) (k : Nat) : endv row (k + 1) = (rnD row k).til := rfl
end Go.Proofs.Ytjncfpfgobojpaa
namespace Go.Proofs.Ytjncfpfgobojpaa
open Go Go.Shelf Go.Proofs
def growR_ren : Go.Shelf.Ren := ⟨fun | 4 => 93 | n => n, fun | 0 => 0 | 3 => 3 | 4 => 4 | 9 => 9 | 20 => 20 | 22 => 95 | 25 => 43 | n => n, fun | n => n⟩
theorem growR : Go.Proofs.Lays8.n4 Try.prog growR_ren := {
 mixed := by kernel_rfl
 f4 := ⟨Try.f93.name, by decide, Try.func93.trans (congrArg some (by kernel_rfl))⟩
 t0 := Try.underlying0
 a0 := Try.isAgg0
 z0 := Try.sizeOf0
 v0 := Try.zeroValue0
 t3 := Try.underlying3
 a3 := Try.isAgg3
 z3 := Try.sizeOf3
 v3 := Try.zeroValue3
 t4 := Try.underlying4
 a4 := Try.isAgg4
 z4 := Try.sizeOf4
 v4 := Try.zeroValue4
 t9 := Try.underlying9
 a9 := Try.isAgg9
 z9 := Try.sizeOf9
 v9 := Try.zeroValue9
 t20 := Try.underlying20
 a20 := Try.isAgg20
 z20 := Try.sizeOf20
 v20 := Try.zeroValue20
 t22 := Try.underlying95
 a22 := Try.isAgg95
 z22 := Try.sizeOf95
 v22 := Try.zeroValue95 }
theorem info_run : (Try.prog.info? 43).map (fun i => (i.zero, i.size, i.bytes)) = some (some (.agg #[.int .i64 0, .int .i64 0, .int .i64 0, .bool false]), 4, 32) := by kernel_rfl
theorem fc93 {n : Nat} (hn : n ≤ 1000000000) (h : Go.Am.AH) : Go.Am.FCalls Try.prog 93 [.sl 0 0 0 0, .i .i64 (n : Int)] h none 0 4 [] := by
 cases hi : Try.prog.info? 43 with
 | none => have := info_run; rw [hi] at this; cases this
 | some i =>
   have := info_run
   rw [hi] at this
   simp only [Option.map_some, Option.some.injEq, Prod.mk.injEq] at this
   obtain ⟨h1, h2, h3⟩ := this
   have := Go.Am.grow_new growR i _ hi h1 (by omega) (by rw [h2]; rfl) (n := n) (by rw [h3]; omega) (by omega) h
   rwa [h2] at this
end Go.Proofs.Ytjncfpfgobojpaa
set_option linter.unusedVariables false
set_option linter.unusedSimpArgs false
namespace Go.Proofs.Ytjncfpfgobojpaa
open Go Go.Am Go.Proofs Go.Sort
def frk (runs : List (List Rn)) (k : Nat) : List Rn := (runs.take k).flatten
theorem frk_succ {runs : List (List Rn)} {k : Nat} (h : k < runs.length) : frk runs (k + 1) = frk runs k ++ rw_ runs k := by
 unfold frk
 rw [List.take_succ_eq_append_getElem h, List.flatten_append]
 simp [rw_, h]
theorem frk_all (runs : List (List Rn)) : frk runs runs.length = runs.flatten := by unfold frk; rw [List.take_length]
theorem frk_le (runs : List (List Rn)) : ∀ k, (frk runs k).length ≤ runs.flatten.length := fun k => by
 unfold frk
 have : runs.flatten = (runs.take k).flatten ++ (runs.drop k).flatten := by rw [← List.flatten_append, List.take_append_drop]
 rw [this, List.length_append]; omega
theorem frk_pre (runs : List (List Rn)) (k : Nat) : ∃ t, runs.flatten = frk runs k ++ t := by
 unfold frk
 exact ⟨(runs.drop k).flatten, by rw [← List.flatten_append, List.take_append_drop]⟩
theorem frk_small {runs : List (List Rn)} {m : Nat} (hr : ∀ i, i < runs.length → (rw_ runs i).length ≤ m) : ∀ k, k ≤ runs.length → (frk runs k).length ≤ m * k
 | 0, _ => by simp [frk]
 | k + 1, h => by
   have := frk_small hr k (by omega)
   have := hr k (by omega)
   rw [frk_succ (by omega), List.length_append, Nat.mul_succ]
   omega
theorem frk_at {runs : List (List Rn)} {b k : Nat} (hb : b < runs.length) (hk : k < (rw_ runs b).length) : rnD runs.flatten ((frk runs b).length + k) = rnD (rw_ runs b) k := by
 obtain ⟨t, e⟩ := frk_pre runs (b + 1)
 rw [e, frk_succ hb]
 simp only [rnD]
 rw [List.getD_eq_getElem?_getD, List.getElem?_append_left (by rw [List.length_append]; omega), List.getElem?_append_right (by omega), Nat.add_sub_cancel_left, ← List.getD_eq_getElem?_getD]
theorem RG81 : (type_of% @c81r0.eq_1) ∧ (type_of% @c81r1.eq_1) ∧ (type_of% @c81r2.eq_1) ∧ (type_of% @c81r3.eq_1) ∧ (type_of% @c81r4.eq_1) ∧ (type_of% @c81r5.eq_1) ∧ (type_of% @c81r6.eq_1) ∧ (type_of% @c81r7.eq_1) ∧ (type_of% @c81r9.eq_1) ∧ (type_of% @c81r10.eq_1) ∧ (type_of% @c81r11.eq_1) ∧ (type_of% @c81r12.eq_1) ∧ (type_of% @c81r13.eq_1) ∧ (type_of% @c81r14.eq_1) ∧ (type_of% @c81r16.eq_1) := ⟨@c81r0.eq_1, @c81r1.eq_1, @c81r2.eq_1, @c81r3.eq_1, @c81r4.eq_1, @c81r5.eq_1, @c81r6.eq_1, @c81r7.eq_1, @c81r9.eq_1, @c81r10.eq_1, @c81r11.eq_1, @c81r12.eq_1, @c81r13.eq_1, @c81r14.eq_1, @c81r16.eq_1⟩
set_option maxHeartbeats 1000000 in
theorem pc81 (runs : List (List Rn)) (hn : runs.length ≤ 1000000) (hs : runs.flatten.length ≤ 1000000) : PC Try.prog 81 [vRR runs] (.vs runs.flatten.length (fl eR runs.flatten)) := by
 refine pc_fn fn81 (by simp only [AV.plains, AV.plain, il_plain, bl_plain, Bool.and_true, Bool.true_and, Bool.and_self, vRR_plain, flR_plain]) (by simp only [AV.plains, AV.plain, il_plain, bl_plain, Bool.and_true, Bool.true_and, Bool.and_self, vRR_plain, flR_plain]) (Nat.le_of_ble_eq_true rfl) ?_
 rw [initSt1]
 repeat' first | (with_reducible first | refine k_seq ?_ | refine k_skip ?_ | refine k_blkS ?_ | refine k_blkR ?_ | refine k_blkC ?_ | refine k_blkH ?_ | refine k_blkB ?_ | refine k_blkK ?_ | refine k_blkE ?_ | refine k_reg ?_) | with_reducible refine r_done ?_ | with_reducible refine s_go (by simp (disch := omega) only [RG81, EVA, plug, eq_self, simprocAttr]; with_reducible rfl) ?_ | ((with_reducible refine chk_r ?_); refine r_callF (by simp only [CA, simprocAttr]; rfl) (by exact rfl) (by simp only [CA, simprocAttr]; rfl) rfl ?_) | (with_reducible refine k_condP (by simp only [GA, simprocAttr]; rfl) (by first | (simp only [BO]; rfl) | rfl) (fun ht => ?_) (fun ht => ?_) <;> try (first | exact False.elim ht | exact absurd rfl ht | exact absurd trivial ht | exact Bool.noConfusion ht)) | (with_reducible refine k_ret ?_; repeat with_reducible (first | refine ret_thru ?_ | refine ret_blk ?_ | refine fin ?_)) | (with_reducible refine k_exit ?_; repeat with_reducible (first | refine thru ?_ | refine out_blk ?_ | refine pass (by decide) ?_)) | ((first | refine post1 ?_ | refine post2 ?_ | refine post3 ?_); simp only [GA, simprocAttr]) | refine post0 ?_
 refine k_blk (k_loopS (X := Unit) [0, 3, 9, 10, 11] runs.length (fun k _ => [(0, vRR runs), (3, .i .i64 ((frk runs k).length : Int)), (9, vRR runs), (10, .i .i64 runs.length), (11, .i .i64 (k : Int))]) (fun k _ h => True) () (by simp only [Am.keep, List.map_cons, List.map_nil, GA, simprocAttr]; try rfl) trivial ?_)
 rintro k _ h hk - ok pos
 by_cases hlt : k < runs.length
 ·have hlt' : (k : Int) < runs.length := by omega
  have g := vrr_get hlt
  have e := frk_succ hlt
  have l1 := frk_le runs k
  have l2 := frk_le runs (k + 1)
  have e1 : ((frk runs k).length : Int) + (rw_ runs k).length = ((frk runs (k + 1)).length : Int) := by rw [e, List.length_append]; omega
  have l3 : (rw_ runs k).length ≤ 1000000 := by rw [e, List.length_append] at l2; omega
  have nn : ¬ ((frk runs (k + 1)).length : Int) < 0 := by omega
  repeat' first | (with_reducible first | refine k_seq ?_ | refine k_skip ?_ | refine k_blkS ?_ | refine k_blkR ?_ | refine k_blkC ?_ | refine k_blkH ?_ | refine k_blkB ?_ | refine k_blkK ?_ | refine k_blkE ?_ | refine k_reg ?_) | with_reducible refine r_done ?_ | with_reducible refine s_go (by simp (disch := omega) only [hlt', g, e1, nn, RG81, EVA, plug, eq_self, simprocAttr]; with_reducible rfl) ?_ | ((with_reducible refine chk_r ?_); refine r_callF (by simp only [CA, simprocAttr]; rfl) (by exact rfl) (by simp only [CA, simprocAttr]; rfl) rfl ?_) | (with_reducible refine k_condP (by simp only [GA, simprocAttr]; rfl) (by first | (simp only [BO]; rfl) | rfl) (fun ht => ?_) (fun ht => ?_) <;> try (first | exact False.elim ht | exact absurd rfl ht | exact absurd trivial ht | exact Bool.noConfusion ht)) | (with_reducible refine k_ret ?_; repeat with_reducible (first | refine ret_thru ?_ | refine ret_blk ?_ | refine fin ?_)) | (with_reducible refine k_exit ?_; repeat with_reducible (first | refine thru ?_ | refine out_blk ?_ | refine pass (by decide) ?_)) | ((first | refine post1 ?_ | refine post2 ?_ | refine post3 ?_); simp only [GA, simprocAttr]) | refine post0 ?_
  exact ⟨hlt, (), (by simp only [Am.keep, List.map_cons, List.map_nil, GA, simprocAttr]; try rfl), trivial⟩
 ·obtain rfl : k = runs.length := by omega
  have hlt' : ¬ (runs.length : Int) < runs.length := by omega
  rw [frk_all]
  repeat' first | (with_reducible first | refine k_seq ?_ | refine k_skip ?_ | refine k_blkS ?_ | refine k_blkR ?_ | refine k_blkC ?_ | refine k_blkH ?_ | refine k_blkB ?_ | refine k_blkK ?_ | refine k_blkE ?_ | refine k_reg ?_) | with_reducible refine r_done ?_ | with_reducible refine s_go (by simp (disch := omega) only [hlt', RG81, EVA, plug, eq_self, simprocAttr]; with_reducible rfl) ?_ | ((with_reducible refine chk_r ?_); refine r_callF (by simp only [CA, simprocAttr]; rfl) (by exact rfl) (by simp only [CA, simprocAttr]; rfl) rfl ?_) | ((with_reducible refine chk_r ?_); refine r_callN (by simp only [CA, simprocAttr]; rfl) (by simp only [CA, simprocAttr]; rfl) (by first | exact fc93 (by omega) _) rfl ?_) | (with_reducible refine k_condP (by simp only [GA, simprocAttr]; rfl) (by first | (simp only [BO]; rfl) | rfl) (fun ht => ?_) (fun ht => ?_) <;> try (first | exact False.elim ht | exact absurd rfl ht | exact absurd trivial ht | exact Bool.noConfusion ht)) | (with_reducible refine k_ret ?_; repeat with_reducible (first | refine ret_thru ?_ | refine ret_blk ?_ | refine fin ?_)) | (with_reducible refine k_exit ?_; repeat with_reducible (first | refine thru ?_ | refine out_blk ?_ | refine pass (by decide) ?_)) | ((first | refine post1 ?_ | refine post2 ?_ | refine post3 ?_); simp only [GA, simprocAttr]) | refine post0 ?_
  refine k_blk (k_loopS (X := Nat) [6, 25, 26, 27] runs.length (fun k x => [(6, .sl x 0 (frk runs k).length 4), (25, vRR runs), (26, .i .i64 runs.length), (27, .i .i64 (k : Int))]) (fun k x h => x ≠ 0 ∧ h.m x = some (.cells true (fl eR (frk runs k)))) _ (by simp only [Am.keep, List.map_cons, List.map_nil, GA, simprocAttr]; try rfl) ⟨?_, by simp (disch := omega) only [RG81, EVA, plug, eq_self, simprocAttr] <;> rfl⟩ ?_)
  ·omega
  rintro k x h2 hk ⟨hx, hm⟩ ok pos
  have hx' := ok.m hm
  by_cases hlt : k < runs.length
  ·have hlt' : (k : Int) < runs.length := by omega
   have g := vrr_get hlt
   have e := frk_succ hlt
   have l2 := frk_le runs (k + 1)
   rw [e, List.length_append] at l2
   have f1 := fl_len eR_len
   have f2 := fl_one (enc := eR) (fun _ => rfl)
   repeat' first | (with_reducible first | refine k_seq ?_ | refine k_skip ?_ | refine k_blkS ?_ | refine k_blkR ?_ | refine k_blkC ?_ | refine k_blkH ?_ | refine k_blkB ?_ | refine k_blkK ?_ | refine k_blkE ?_ | refine k_reg ?_) | with_reducible refine r_done ?_ | with_reducible refine s_go (by simp (disch := omega) only [hlt', g, hm, row_m hm, read_row (row_m hm), hx, f1, fl_app, f2, RG81, EVA, plug, eq_self, simprocAttr]; with_reducible rfl) ?_ | ((with_reducible refine chk_r ?_); refine r_callF (by simp only [CA, simprocAttr]; rfl) (by exact rfl) (by simp only [CA, simprocAttr]; rfl) rfl ?_) | (with_reducible refine k_condP (by simp only [GA, simprocAttr]; rfl) (by first | (simp only [BO]; rfl) | rfl) (fun ht => ?_) (fun ht => ?_) <;> try (first | exact False.elim ht | exact absurd rfl ht | exact absurd trivial ht | exact Bool.noConfusion ht)) | (with_reducible refine k_ret ?_; repeat with_reducible (first | refine ret_thru ?_ | refine ret_blk ?_ | refine fin ?_)) | (with_reducible refine k_exit ?_; repeat with_reducible (first | refine thru ?_ | refine out_blk ?_ | refine pass (by decide) ?_)) | ((first | refine post1 ?_ | refine post2 ?_ | refine post3 ?_); simp only [GA, simprocAttr]) | refine post0 ?_
   rw [e]
   exact ⟨hlt, _, (by simp only [Am.keep, List.map_cons, List.map_nil, GA, Nat.reduceEqDiff, ↓reduceIte, List.length_append]; rfl), by omega, by simp (disch := omega) only [RG81, EVA, plug, eq_self, simprocAttr] <;> rfl⟩
  ·obtain rfl : k = runs.length := by omega
   have hlt' : ¬ (runs.length : Int) < runs.length := by omega
   rw [frk_all] at hm ⊢
   repeat' first | (with_reducible first | refine k_seq ?_ | refine k_skip ?_ | refine k_blkS ?_ | refine k_blkR ?_ | refine k_blkC ?_ | refine k_blkH ?_ | refine k_blkB ?_ | refine k_blkK ?_ | refine k_blkE ?_ | refine k_reg ?_) | with_reducible refine r_done ?_ | with_reducible refine s_go (by simp (disch := omega) only [hlt', RG81, EVA, plug, eq_self, simprocAttr]; with_reducible rfl) ?_ | ((with_reducible refine chk_r ?_); refine r_callF (by simp only [CA, simprocAttr]; rfl) (by exact rfl) (by simp only [CA, simprocAttr]; rfl) rfl ?_) | (with_reducible refine k_condP (by simp only [GA, simprocAttr]; rfl) (by first | (simp only [BO]; rfl) | rfl) (fun ht => ?_) (fun ht => ?_) <;> try (first | exact False.elim ht | exact absurd rfl ht | exact absurd trivial ht | exact Bool.noConfusion ht)) | (with_reducible refine k_ret ?_; repeat with_reducible (first | refine ret_thru ?_ | refine ret_blk ?_ | refine fin ?_)) | (with_reducible refine k_exit ?_; repeat with_reducible (first | refine thru ?_ | refine out_blk ?_ | refine pass (by decide) ?_)) | ((first | refine post1 ?_ | refine post2 ?_ | refine post3 ?_); simp only [GA, simprocAttr]) | refine post0 ?_
   exact ends_sl (k := 4) (by simp (disch := omega) only [hm, RG81, EVA, plug, eq_self, simprocAttr] <;> rfl) (by rw [fl_len eR_len])
abbrev cmR (a b : Rn) : Int := if a.til < b.til then -1 else if b.til < a.til then 1 else 0
theorem RG83 : (type_of% @c83r0.eq_1) ∧ (type_of% @c83r1.eq_1) ∧ (type_of% @c83r2.eq_1) ∧ (type_of% @c83r3.eq_1) ∧ (type_of% @c83r4.eq_1) ∧ (type_of% @c83r5.eq_1) := ⟨@c83r0.eq_1, @c83r1.eq_1, @c83r2.eq_1, @c83r3.eq_1, @c83r4.eq_1, @c83r5.eq_1⟩
theorem pc83 (a b : Rn) : PC Try.prog 83 [.ag (eR a), .ag (eR b)] (.i .i64 (cmR a b)) := by
 obtain ⟨ab, af, at_, ac⟩ := a
 obtain ⟨bb, bf, bt, bc⟩ := b
 simp only [eR, cmR]
 refine pc_fn fn83 (by simp only [AV.plains, AV.plain, il_plain, bl_plain, Bool.and_true, Bool.true_and, Bool.and_self]) (by simp only [AV.plains, AV.plain, il_plain, bl_plain, Bool.and_true, Bool.true_and, Bool.and_self]) (Nat.le_of_ble_eq_true rfl) ?_
 rw [initSt2]
 by_cases c1 : at_ < bt
 ·rw [if_pos c1]
  repeat' first | (with_reducible first | refine k_seq ?_ | refine k_skip ?_ | refine k_blkS ?_ | refine k_blkR ?_ | refine k_blkC ?_ | refine k_blkH ?_ | refine k_blkB ?_ | refine k_blkK ?_ | refine k_blkE ?_ | refine k_reg ?_) | with_reducible refine r_done ?_ | with_reducible refine s_go (by simp (disch := omega) only [c1, RG83, EVA, plug, eq_self, simprocAttr]; with_reducible rfl) ?_ | ((with_reducible refine chk_r ?_); refine r_callF (by simp only [CA, simprocAttr]; rfl) (by exact rfl) (by simp only [CA, simprocAttr]; rfl) rfl ?_) | (with_reducible refine k_condP (by simp only [GA, simprocAttr]; rfl) (by first | (simp only [BO]; rfl) | rfl) (fun ht => ?_) (fun ht => ?_) <;> try (first | exact False.elim ht | exact absurd rfl ht | exact absurd trivial ht | exact Bool.noConfusion ht)) | (with_reducible refine k_ret ?_; repeat with_reducible (first | refine ret_thru ?_ | refine ret_blk ?_ | refine fin ?_)) | (with_reducible refine k_exit ?_; repeat with_reducible (first | refine thru ?_ | refine out_blk ?_ | refine pass (by decide) ?_)) | ((first | refine post1 ?_ | refine post2 ?_ | refine post3 ?_); simp only [GA, simprocAttr]) | refine post0 ?_
  all_goals first | exact ends_of | exact ends_eq rfl
 ·rw [if_neg c1]
  by_cases c2 : bt < at_
  ·rw [if_pos c2]
   repeat' first | (with_reducible first | refine k_seq ?_ | refine k_skip ?_ | refine k_blkS ?_ | refine k_blkR ?_ | refine k_blkC ?_ | refine k_blkH ?_ | refine k_blkB ?_ | refine k_blkK ?_ | refine k_blkE ?_ | refine k_reg ?_) | with_reducible refine r_done ?_ | with_reducible refine s_go (by simp (disch := omega) only [c1, c2, RG83, EVA, plug, eq_self, simprocAttr]; with_reducible rfl) ?_ | ((with_reducible refine chk_r ?_); refine r_callF (by simp only [CA, simprocAttr]; rfl) (by exact rfl) (by simp only [CA, simprocAttr]; rfl) rfl ?_) | (with_reducible refine k_condP (by simp only [GA, simprocAttr]; rfl) (by first | (simp only [BO]; rfl) | rfl) (fun ht => ?_) (fun ht => ?_) <;> try (first | exact False.elim ht | exact absurd rfl ht | exact absurd trivial ht | exact Bool.noConfusion ht)) | (with_reducible refine k_ret ?_; repeat with_reducible (first | refine ret_thru ?_ | refine ret_blk ?_ | refine fin ?_)) | (with_reducible refine k_exit ?_; repeat with_reducible (first | refine thru ?_ | refine out_blk ?_ | refine pass (by decide) ?_)) | ((first | refine post1 ?_ | refine post2 ?_ | refine post3 ?_); simp only [GA, simprocAttr]) | refine post0 ?_
   all_goals first | exact ends_of | exact ends_eq rfl
  ·rw [if_neg c2]
   repeat' first | (with_reducible first | refine k_seq ?_ | refine k_skip ?_ | refine k_blkS ?_ | refine k_blkR ?_ | refine k_blkC ?_ | refine k_blkH ?_ | refine k_blkB ?_ | refine k_blkK ?_ | refine k_blkE ?_ | refine k_reg ?_) | with_reducible refine r_done ?_ | with_reducible refine s_go (by simp (disch := omega) only [c1, c2, RG83, EVA, plug, eq_self, simprocAttr]; with_reducible rfl) ?_ | ((with_reducible refine chk_r ?_); refine r_callF (by simp only [CA, simprocAttr]; rfl) (by exact rfl) (by simp only [CA, simprocAttr]; rfl) rfl ?_) | (with_reducible refine k_condP (by simp only [GA, simprocAttr]; rfl) (by first | (simp only [BO]; rfl) | rfl) (fun ht => ?_) (fun ht => ?_) <;> try (first | exact False.elim ht | exact absurd rfl ht | exact absurd trivial ht | exact Bool.noConfusion ht)) | (with_reducible refine k_ret ?_; repeat with_reducible (first | refine ret_thru ?_ | refine ret_blk ?_ | refine fin ?_)) | (with_reducible refine k_exit ?_; repeat with_reducible (first | refine thru ?_ | refine out_blk ?_ | refine pass (by decide) ?_)) | ((first | refine post1 ?_ | refine post2 ?_ | refine post3 ?_); simp only [GA, simprocAttr]) | refine post0 ?_
   all_goals first | exact ends_of | exact ends_eq rfl
def mxe (F : List Rn) : Nat → Rn
 | 0 => rnD F 0
 | k + 1 => if (mxe F k).til < (rnD F (k + 1)).til then rnD F (k + 1) else mxe F k
def ev (F : List Rn) : Nat → Int
 | 0 => 0
 | p + 1 => if p = 0 ∨ ev F p < (rnD F p).til then (rnD F p).til else ev F p
theorem mxe_til (F : List Rn) : ∀ k, (mxe F k).til = ev F (k + 1)
 | 0 => by simp [mxe, ev]
 | k + 1 => by
   have ih := mxe_til F k
   rw [mxe, ev, ← ih]
   have : ¬ k + 1 = 0 := by omega
   simp only [this, false_or]
   split <;> rfl
theorem RG82 : (type_of% @c82r0.eq_1) ∧ (type_of% @c82r1.eq_1) ∧ (type_of% @c82r2.eq_1) ∧ (type_of% @c82r3.eq_1) ∧ (type_of% @c82r4.eq_1) ∧ (type_of% @c82r5.eq_1) ∧ (type_of% @c82r6.eq_1) ∧ (type_of% @c82r7.eq_1) ∧ (type_of% @c82r9.eq_1) := ⟨@c82r0.eq_1, @c82r1.eq_1, @c82r2.eq_1, @c82r3.eq_1, @c82r4.eq_1, @c82r5.eq_1, @c82r6.eq_1, @c82r7.eq_1, @c82r9.eq_1⟩
set_option maxHeartbeats 1000000 in
theorem pc82 (F : List Rn) (h0 : F ≠ []) (hn : F.length ≤ 1000000) : PC Try.prog 82 [.vs F.length (fl eR F), .fn 83 [] []] (.ag (eR (mxe F (F.length - 1)))) := by
 have lp : 0 < F.length := List.length_pos_iff.2 h0
 have g0 := rdR (row := F) (j := 0) lp
 rw [Nat.zero_mul] at g0
 have nl : ¬ (F.length : Int) < 1 := by omega
 have q1 : (0 : Int) < F.length := by omega
 refine pc_fn fn82 (by simp only [AV.plains, AV.plain, il_plain, bl_plain, Bool.and_true, Bool.true_and, Bool.and_self, flR_plain, eR_plain]) (by simp only [AV.plains, AV.plain, il_plain, bl_plain, Bool.and_true, Bool.true_and, Bool.and_self, flR_plain, eR_plain]) (Nat.le_of_ble_eq_true rfl) ?_
 rw [initSt2]
 simp only [eR] at g0
 repeat' first | (with_reducible first | refine k_seq ?_ | refine k_skip ?_ | refine k_blkS ?_ | refine k_blkR ?_ | refine k_blkC ?_ | refine k_blkH ?_ | refine k_blkB ?_ | refine k_blkK ?_ | refine k_blkE ?_ | refine k_reg ?_) | with_reducible refine k_head (by with_unfolding_all rfl) ?_ | with_reducible refine k_headS ?_ | (with_reducible refine SepK.mk ?_ ?_; (refine sepQ_P ?_; simp [sepQ, sepG, AOp.late, AOp.free, AOp.xs, AOp.isAl, tokNe, AV.tok, stS_get, strip, AX.val, RG82, GA]; try omega)) | with_reducible refine r_done ?_ | with_reducible refine hr_done ?_ | with_reducible refine s_go (by simp (disch := omega) only [g0, nl, q1, RG82, EVA, plug, eq_self, simprocAttr]; with_reducible rfl) ?_ | with_reducible refine h_go (by with_unfolding_all rfl) (by simp (disch := omega) only [g0, nl, q1, RG82, EVA, plug, eq_self, simprocAttr]; with_reducible rfl) ?_ | ((with_reducible refine chk_r ?_); refine r_callF (by simp only [CA, simprocAttr]; rfl) (by exact rfl) (by simp only [CA, simprocAttr]; rfl) rfl ?_) | ((with_reducible refine chk_h ?_); refine hr_callF (by simp only [CA, simprocAttr]; rfl) (by exact rfl) (by simp only [CA, simprocAttr]; rfl) rfl ?_) | ((with_reducible refine chk_h ?_); refine hr_app (by simp (disch := omega) only [g0, nl, q1, RG82, EVA, plug, eq_self, simprocAttr]; with_reducible rfl) rfl ?_) | (with_reducible refine k_condP (by simp only [GA, simprocAttr]; rfl) (by first | (simp only [BO]; rfl) | rfl) (fun ht => ?_) (fun ht => ?_) <;> try (first | exact False.elim ht | exact absurd rfl ht | exact absurd trivial ht | exact Bool.noConfusion ht)) | (with_reducible refine k_ret ?_; repeat with_reducible (first | refine ret_thru ?_ | refine ret_blk ?_ | refine fin ?_)) | (with_reducible refine k_exit ?_; repeat with_reducible (first | refine thru ?_ | refine out_blk ?_ | refine pass (by decide) ?_)) | ((first | refine post1 ?_ | refine post2 ?_ | refine post3 ?_); simp only [GA, simprocAttr]) | (refine postc (by simp only [GA, simprocAttr]; rfl) (by simp (disch := omega) only [g0, nl, q1, RG82, EVA, plug, eq_self, simprocAttr]; rfl) ?_) | refine post0 ?_
 refine k_blk (k_loopS (X := Nat × Nat) [0, 1, 4, 5, 6] (F.length - 1) (fun k x => [(0, .vs F.length (fl eR F)), (1, .fn 83 [] []), (4, .p x.1 0), (5, .p x.2 0), (6, .i .i64 ((k + 1 : Nat) : Int))]) (fun k x h => x.1 ≠ x.2 ∧ h.m x.1 = some (.cells true (eR R0)) ∧ h.m x.2 = some (.cells true (eR (mxe F k)))) (_, _) (by simp only [Am.keep, List.map_cons, List.map_nil, GA, simprocAttr]; try rfl) ⟨?_, by simp (disch := omega) only [RG82, EVA, plug, eq_self, simprocAttr] <;> rfl, by simp (disch := omega) only [RG82, EVA, plug, eq_self, simprocAttr] <;> rfl⟩ ?_)
 ·simp
 rintro k ⟨x, y⟩ h hk ⟨hne, hx, hy⟩ ok pos
 simp only at hne hx hy ⊢
 have hx' := ok.m hx
 have hy' := ok.m hy
 by_cases hlt : k < F.length - 1
 ·have hlt' : ((k + 1 : Nat) : Int) < F.length := by omega
  have g := rdR (row := F) (j := k + 1) (by omega)
  have q := pc83 (rnD F (k + 1)) (mxe F k)
  have cut : mxe F (k + 1) = if (mxe F k).til < (rnD F (k + 1)).til then rnD F (k + 1) else mxe F k := rfl
  generalize rnD F (k + 1) = a at *
  generalize mxe F (k + 1) = b' at *
  generalize mxe F k = b at *
  by_cases c : b.til < a.til
  ·rw [if_pos c] at cut
   subst cut
   have : cmR b' b = 1 := by unfold cmR; rw [if_neg (by omega), if_pos c]
   rw [this] at q
   obtain ⟨_, _, _, _⟩ := b
   obtain ⟨_, _, _, _⟩ := b'
   simp only [eR] at *
   repeat' first | (with_reducible first | refine k_seq ?_ | refine k_skip ?_ | refine k_blkS ?_ | refine k_blkR ?_ | refine k_blkC ?_ | refine k_blkH ?_ | refine k_blkB ?_ | refine k_blkK ?_ | refine k_blkE ?_ | refine k_reg ?_) | with_reducible refine k_head (by with_unfolding_all rfl) ?_ | with_reducible refine k_headS ?_ | (with_reducible refine SepK.mk ?_ ?_; (refine sepQ_P ?_; simp [sepQ, sepG, AOp.late, AOp.free, AOp.xs, AOp.isAl, tokNe, AV.tok, stS_get, strip, AX.val, RG82, GA]; try omega)) | with_reducible refine r_done ?_ | with_reducible refine hr_done ?_ | with_reducible refine s_go (by simp (disch := omega) only [hlt', g, hx, row_m hx, read_row (row_m hx), hy, row_m hy, read_row (row_m hy), RG82, EVA, plug, eq_self, simprocAttr]; with_reducible rfl) ?_ | with_reducible refine h_go (by with_unfolding_all rfl) (by simp (disch := omega) only [hlt', g, hx, row_m hx, read_row (row_m hx), hy, row_m hy, read_row (row_m hy), RG82, EVA, plug, eq_self, simprocAttr]; with_reducible rfl) ?_ | ((with_reducible refine chk_r ?_); refine r_callF (by simp only [CA, simprocAttr]; rfl) (by exact rfl) (by simp only [CA, simprocAttr]; rfl) rfl ?_) | ((with_reducible refine chk_h ?_); refine hr_callF (by simp only [CA, simprocAttr]; rfl) (by exact rfl) (by simp only [CA, simprocAttr]; rfl) rfl ?_) | ((with_reducible refine chk_r ?_); refine r_callP (by simp only [CA, simprocAttr]; rfl) (by simp only [CA, simprocAttr]; rfl) (by first | exact q _) rfl ?_) | ((with_reducible refine chk_h ?_); refine hr_callP (by simp only [CA, simprocAttr]; rfl) (by simp only [CA, simprocAttr]; rfl) (by first | exact q _) rfl ?_) | ((with_reducible refine chk_h ?_); refine hr_callP1 (by simp only [CA, simprocAttr]; rfl) (by simp only [CA, simprocAttr]; rfl) (by simp (disch := omega) only [CA, Nat.reduceEqDiff, ↓reduceIte, firstTok_nil, firstTok_sl, firstTok_sl0, firstTok_i, firstTok_b, firstTok_ag, firstTok_p, firstTok_s]; rfl) (by first | exact q _) rfl ?_) | ((with_reducible refine chk_h ?_); refine hr_app (by simp (disch := omega) only [hlt', g, hx, row_m hx, read_row (row_m hx), hy, row_m hy, read_row (row_m hy), RG82, EVA, plug, eq_self, simprocAttr]; with_reducible rfl) rfl ?_) | (with_reducible refine k_condP (by simp only [GA, simprocAttr]; rfl) (by first | (simp only [BO]; rfl) | rfl) (fun ht => ?_) (fun ht => ?_) <;> try (first | exact False.elim ht | exact absurd rfl ht | exact absurd trivial ht | exact Bool.noConfusion ht)) | (with_reducible refine k_ret ?_; repeat with_reducible (first | refine ret_thru ?_ | refine ret_blk ?_ | refine fin ?_)) | (with_reducible refine k_exit ?_; repeat with_reducible (first | refine thru ?_ | refine out_blk ?_ | refine pass (by decide) ?_)) | ((first | refine post1 ?_ | refine post2 ?_ | refine post3 ?_); simp only [GA, simprocAttr]) | (refine postc (by simp only [GA, simprocAttr]; rfl) (by simp (disch := omega) only [hlt', g, hx, row_m hx, read_row (row_m hx), hy, row_m hy, read_row (row_m hy), RG82, EVA, plug, eq_self, simprocAttr]; rfl) ?_) | refine post0 ?_
   exact ⟨hlt, (x, y), (by simp only [Am.keep, List.map_cons, List.map_nil, GA, simprocAttr]; try rfl), hne, by simp (disch := omega) only [hx, RG82, EVA, plug, eq_self, simprocAttr], by simp (disch := omega) only [RG82, EVA, plug, eq_self, simprocAttr] <;> rfl⟩
  ·rw [if_neg c] at cut
   subst cut
   have : ¬ 0 < cmR a b' := by unfold cmR; split <;> decide
   generalize cmR a b' = C at *
   obtain ⟨_, _, _, _⟩ := a
   obtain ⟨_, _, _, _⟩ := b'
   simp only [eR] at *
   repeat' first | (with_reducible first | refine k_seq ?_ | refine k_skip ?_ | refine k_blkS ?_ | refine k_blkR ?_ | refine k_blkC ?_ | refine k_blkH ?_ | refine k_blkB ?_ | refine k_blkK ?_ | refine k_blkE ?_ | refine k_reg ?_) | with_reducible refine k_head (by with_unfolding_all rfl) ?_ | with_reducible refine k_headS ?_ | (with_reducible refine SepK.mk ?_ ?_; (refine sepQ_P ?_; simp [sepQ, sepG, AOp.late, AOp.free, AOp.xs, AOp.isAl, tokNe, AV.tok, stS_get, strip, AX.val, RG82, GA]; try omega)) | with_reducible refine r_done ?_ | with_reducible refine hr_done ?_ | with_reducible refine s_go (by simp (disch := omega) only [hlt', g, hx, row_m hx, read_row (row_m hx), hy, row_m hy, read_row (row_m hy), this, RG82, EVA, plug, eq_self, simprocAttr]; with_reducible rfl) ?_ | with_reducible refine h_go (by with_unfolding_all rfl) (by simp (disch := omega) only [hlt', g, hx, row_m hx, read_row (row_m hx), hy, row_m hy, read_row (row_m hy), this, RG82, EVA, plug, eq_self, simprocAttr]; with_reducible rfl) ?_ | ((with_reducible refine chk_r ?_); refine r_callF (by simp only [CA, simprocAttr]; rfl) (by exact rfl) (by simp only [CA, simprocAttr]; rfl) rfl ?_) | ((with_reducible refine chk_h ?_); refine hr_callF (by simp only [CA, simprocAttr]; rfl) (by exact rfl) (by simp only [CA, simprocAttr]; rfl) rfl ?_) | ((with_reducible refine chk_r ?_); refine r_callP (by simp only [CA, simprocAttr]; rfl) (by simp only [CA, simprocAttr]; rfl) (by first | exact q _) rfl ?_) | ((with_reducible refine chk_h ?_); refine hr_callP (by simp only [CA, simprocAttr]; rfl) (by simp only [CA, simprocAttr]; rfl) (by first | exact q _) rfl ?_) | ((with_reducible refine chk_h ?_); refine hr_callP1 (by simp only [CA, simprocAttr]; rfl) (by simp only [CA, simprocAttr]; rfl) (by simp (disch := omega) only [CA, Nat.reduceEqDiff, ↓reduceIte, firstTok_nil, firstTok_sl, firstTok_sl0, firstTok_i, firstTok_b, firstTok_ag, firstTok_p, firstTok_s]; rfl) (by first | exact q _) rfl ?_) | ((with_reducible refine chk_h ?_); refine hr_app (by simp (disch := omega) only [hlt', g, hx, row_m hx, read_row (row_m hx), hy, row_m hy, read_row (row_m hy), this, RG82, EVA, plug, eq_self, simprocAttr]; with_reducible rfl) rfl ?_) | (with_reducible refine k_condP (by simp only [GA, simprocAttr]; rfl) (by first | (simp only [BO]; rfl) | rfl) (fun ht => ?_) (fun ht => ?_) <;> try (first | exact False.elim ht | exact absurd rfl ht | exact absurd trivial ht | exact Bool.noConfusion ht)) | (with_reducible refine k_ret ?_; repeat with_reducible (first | refine ret_thru ?_ | refine ret_blk ?_ | refine fin ?_)) | (with_reducible refine k_exit ?_; repeat with_reducible (first | refine thru ?_ | refine out_blk ?_ | refine pass (by decide) ?_)) | ((first | refine post1 ?_ | refine post2 ?_ | refine post3 ?_); simp only [GA, simprocAttr]) | (refine postc (by simp only [GA, simprocAttr]; rfl) (by simp (disch := omega) only [hlt', g, hx, row_m hx, read_row (row_m hx), hy, row_m hy, read_row (row_m hy), this, RG82, EVA, plug, eq_self, simprocAttr]; rfl) ?_) | refine post0 ?_
   exact ⟨hlt, (x, y), (by simp only [Am.keep, List.map_cons, List.map_nil, GA, simprocAttr]; try rfl), hne, by simp (disch := omega) only [hx, RG82, EVA, plug, eq_self, simprocAttr], by simp (disch := omega) only [hy, RG82, EVA, plug, eq_self, simprocAttr]⟩
 ·obtain rfl : k = F.length - 1 := by omega
  have hlt' : ¬ ((F.length - 1 + 1 : Nat) : Int) < F.length := by omega
  generalize mxe F (F.length - 1) = b at *
  obtain ⟨_, _, _, _⟩ := b
  simp only [eR] at *
  repeat' first | (with_reducible first | refine k_seq ?_ | refine k_skip ?_ | refine k_blkS ?_ | refine k_blkR ?_ | refine k_blkC ?_ | refine k_blkH ?_ | refine k_blkB ?_ | refine k_blkK ?_ | refine k_blkE ?_ | refine k_reg ?_) | with_reducible refine k_head (by with_unfolding_all rfl) ?_ | with_reducible refine k_headS ?_ | (with_reducible refine SepK.mk ?_ ?_; (refine sepQ_P ?_; simp [sepQ, sepG, AOp.late, AOp.free, AOp.xs, AOp.isAl, tokNe, AV.tok, stS_get, strip, AX.val, RG82, GA]; try omega)) | with_reducible refine r_done ?_ | with_reducible refine hr_done ?_ | with_reducible refine s_go (by simp (disch := omega) only [hlt', hx, row_m hx, read_row (row_m hx), hy, row_m hy, read_row (row_m hy), RG82, EVA, plug, eq_self, simprocAttr]; with_reducible rfl) ?_ | with_reducible refine h_go (by with_unfolding_all rfl) (by simp (disch := omega) only [hlt', hx, row_m hx, read_row (row_m hx), hy, row_m hy, read_row (row_m hy), RG82, EVA, plug, eq_self, simprocAttr]; with_reducible rfl) ?_ | ((with_reducible refine chk_r ?_); refine r_callF (by simp only [CA, simprocAttr]; rfl) (by exact rfl) (by simp only [CA, simprocAttr]; rfl) rfl ?_) | ((with_reducible refine chk_h ?_); refine hr_callF (by simp only [CA, simprocAttr]; rfl) (by exact rfl) (by simp only [CA, simprocAttr]; rfl) rfl ?_) | ((with_reducible refine chk_h ?_); refine hr_app (by simp (disch := omega) only [hlt', hx, row_m hx, read_row (row_m hx), hy, row_m hy, read_row (row_m hy), RG82, EVA, plug, eq_self, simprocAttr]; with_reducible rfl) rfl ?_) | (with_reducible refine k_condP (by simp only [GA, simprocAttr]; rfl) (by first | (simp only [BO]; rfl) | rfl) (fun ht => ?_) (fun ht => ?_) <;> try (first | exact False.elim ht | exact absurd rfl ht | exact absurd trivial ht | exact Bool.noConfusion ht)) | (with_reducible refine k_ret ?_; repeat with_reducible (first | refine ret_thru ?_ | refine ret_blk ?_ | refine fin ?_)) | (with_reducible refine k_exit ?_; repeat with_reducible (first | refine thru ?_ | refine out_blk ?_ | refine pass (by decide) ?_)) | ((first | refine post1 ?_ | refine post2 ?_ | refine post3 ?_); simp only [GA, simprocAttr]) | (refine postc (by simp only [GA, simprocAttr]; rfl) (by simp (disch := omega) only [hlt', hx, row_m hx, read_row (row_m hx), hy, row_m hy, read_row (row_m hy), RG82, EVA, plug, eq_self, simprocAttr]; rfl) ?_) | refine post0 ?_
  all_goals first | exact ends_of | exact ends_eq rfl
end Go.Proofs.Ytjncfpfgobojpaa
set_option linter.unusedVariables false
set_option linter.unusedSimpArgs false
namespace Go.Proofs.Ytjncfpfgobojpaa
open Go Go.Am Go.Proofs Go.Sort
noncomputable def eoR (runs : List (List Rn)) : Int × Int := if mb runs = true then (0, 2) else (ev runs.flatten runs.flatten.length, 0)
theorem eoR_t {runs : List (List Rn)} (h : mb runs = true) : eoR runs = (0, 2) := if_pos h
theorem eoR_f {runs : List (List Rn)} (h : mb runs = false) : eoR runs = (ev runs.flatten runs.flatten.length, 0) := if_neg (by rw [h]; decide)
theorem mb_small {runs : List (List Rn)} (h : mb runs = false) : runs.length ≤ 8 ∧ (∀ i, i < runs.length → (rw_ runs i).length ≤ 100) ∧ runs.flatten.length ≤ 800 := by
 have hm : ¬ mny runs := fun q => by rw [mb_t q] at h; cases h
 obtain ⟨h1, h2⟩ := no_mny hm
 have := frk_small h2 runs.length (Nat.le_refl _)
 rw [frk_all] at this
 exact ⟨h1, h2, by omega⟩
theorem RG44 : (type_of% @c44r0.eq_1) ∧ (type_of% @c44r1.eq_1) ∧ (type_of% @c44r2.eq_1) ∧ (type_of% @c44r3.eq_1) ∧ (type_of% @c44r4.eq_1) ∧ (type_of% @c44r5.eq_1) ∧ (type_of% @c44r6.eq_1) := ⟨@c44r0.eq_1, @c44r1.eq_1, @c44r2.eq_1, @c44r3.eq_1, @c44r4.eq_1, @c44r5.eq_1, @c44r6.eq_1⟩
theorem pc44 (runs : List (List Rn)) (hn : runs.length ≤ 9223372036854775807) : PC Try.prog 44 [vRR runs] (.tu [.i .i64 (eoR runs).1, .i .i64 (eoR runs).2]) := by
 refine pc_fn fn44 (by simp only [AV.plains, AV.plain, il_plain, bl_plain, Bool.and_true, Bool.true_and, Bool.and_self, vRR_plain]) (by simp only [AV.plains, AV.plain, il_plain, bl_plain, Bool.and_true, Bool.true_and, Bool.and_self, vRR_plain]) (Nat.le_of_ble_eq_true rfl) ?_
 rw [initSt1]
 have q78 := pc78 runs hn
 cases hm : mb runs with
 | true =>
   rw [hm] at q78
   rw [eoR_t hm]
   repeat' first | (with_reducible first | refine k_seq ?_ | refine k_skip ?_ | refine k_blkS ?_ | refine k_blkR ?_ | refine k_blkC ?_ | refine k_blkH ?_ | refine k_blkB ?_ | refine k_blkK ?_ | refine k_blkE ?_ | refine k_reg ?_) | with_reducible refine r_done ?_ | with_reducible refine s_go (by simp (disch := omega) only [RG44, EVA, plug, eq_self, simprocAttr]; with_reducible rfl) ?_ | ((with_reducible refine chk_r ?_); refine r_callF (by simp only [CA, simprocAttr]; rfl) (by exact rfl) (by simp only [CA, simprocAttr]; rfl) rfl ?_) | ((with_reducible refine chk_r ?_); refine r_callP (by simp only [CA, simprocAttr]; rfl) (by simp only [CA, simprocAttr]; rfl) (by first | exact q78 _) rfl ?_) | (with_reducible refine k_condP (by simp only [GA, simprocAttr]; rfl) (by first | (simp only [BO]; rfl) | rfl) (fun ht => ?_) (fun ht => ?_) <;> try (first | exact False.elim ht | exact absurd rfl ht | exact absurd trivial ht | exact Bool.noConfusion ht)) | (with_reducible refine k_ret ?_; repeat with_reducible (first | refine ret_thru ?_ | refine ret_blk ?_ | refine fin ?_)) | (with_reducible refine k_exit ?_; repeat with_reducible (first | refine thru ?_ | refine out_blk ?_ | refine pass (by decide) ?_)) | ((first | refine post1 ?_ | refine post2 ?_ | refine post3 ?_); simp only [GA, simprocAttr]) | refine post0 ?_
   all_goals first | exact ends_of | exact ends_eq rfl
 | false =>
   rw [hm] at q78
   rw [eoR_f hm]
   obtain ⟨h1, h2, h3⟩ := mb_small hm
   have q81 := pc81 runs (by omega) (by omega)
   have q82 := pc82 runs.flatten
   generalize runs.flatten = F at *
   by_cases c : F = []
   ·subst c
    have c' : ((([] : List Rn).length : Nat) : Int) = 0 := rfl
    repeat' first | (with_reducible first | refine k_seq ?_ | refine k_skip ?_ | refine k_blkS ?_ | refine k_blkR ?_ | refine k_blkC ?_ | refine k_blkH ?_ | refine k_blkB ?_ | refine k_blkK ?_ | refine k_blkE ?_ | refine k_reg ?_) | with_reducible refine r_done ?_ | with_reducible refine s_go (by simp (disch := omega) only [c', RG44, EVA, plug, eq_self, simprocAttr]; with_reducible rfl) ?_ | ((with_reducible refine chk_r ?_); refine r_callF (by simp only [CA, simprocAttr]; rfl) (by exact rfl) (by simp only [CA, simprocAttr]; rfl) rfl ?_) | ((with_reducible refine chk_r ?_); refine r_callP (by simp only [CA, simprocAttr]; rfl) (by simp only [CA, simprocAttr]; rfl) (by first | exact q78 _ | exact q81 _) rfl ?_) | (with_reducible refine k_condP (by simp only [GA, simprocAttr]; rfl) (by first | (simp only [BO]; rfl) | rfl) (fun ht => ?_) (fun ht => ?_) <;> try (first | exact False.elim ht | exact absurd rfl ht | exact absurd trivial ht | exact Bool.noConfusion ht)) | (with_reducible refine k_ret ?_; repeat with_reducible (first | refine ret_thru ?_ | refine ret_blk ?_ | refine fin ?_)) | (with_reducible refine k_exit ?_; repeat with_reducible (first | refine thru ?_ | refine out_blk ?_ | refine pass (by decide) ?_)) | ((first | refine post1 ?_ | refine post2 ?_ | refine post3 ?_); simp only [GA, simprocAttr]) | refine post0 ?_
    all_goals first | exact ends_of | exact ends_eq rfl
   ·have lp : 0 < F.length := List.length_pos_iff.2 c
    have c' := eq_false (show ¬ (F.length : Int) = 0 by omega)
    have q82 := q82 c (by omega)
    have e := mxe_til F (F.length - 1)
    rw [show F.length - 1 + 1 = F.length by omega] at e
    rw [← e]
    generalize mxe F (F.length - 1) = m at *
    obtain ⟨_, _, _, _⟩ := m
    simp only [eR] at *
    repeat' first | (with_reducible first | refine k_seq ?_ | refine k_skip ?_ | refine k_blkS ?_ | refine k_blkR ?_ | refine k_blkC ?_ | refine k_blkH ?_ | refine k_blkB ?_ | refine k_blkK ?_ | refine k_blkE ?_ | refine k_reg ?_) | with_reducible refine r_done ?_ | with_reducible refine s_go (by simp (disch := omega) only [c', RG44, EVA, plug, eq_self, simprocAttr]; with_reducible rfl) ?_ | ((with_reducible refine chk_r ?_); refine r_callF (by simp only [CA, simprocAttr]; rfl) (by exact rfl) (by simp only [CA, simprocAttr]; rfl) rfl ?_) | ((with_reducible refine chk_r ?_); refine r_callP (by simp only [CA, simprocAttr]; rfl) (by simp only [CA, simprocAttr]; rfl) (by first | exact q78 _ | exact q81 _ | exact q82 _) rfl ?_) | (with_reducible refine k_condP (by simp only [GA, simprocAttr]; rfl) (by first | (simp only [BO]; rfl) | rfl) (fun ht => ?_) (fun ht => ?_) <;> try (first | exact False.elim ht | exact absurd rfl ht | exact absurd trivial ht | exact Bool.noConfusion ht)) | (with_reducible refine k_ret ?_; repeat with_reducible (first | refine ret_thru ?_ | refine ret_blk ?_ | refine fin ?_)) | (with_reducible refine k_exit ?_; repeat with_reducible (first | refine thru ?_ | refine out_blk ?_ | refine pass (by decide) ?_)) | ((first | refine post1 ?_ | refine post2 ?_ | refine post3 ?_); simp only [GA, simprocAttr]) | refine post0 ?_
    all_goals first | exact ends_of | exact ends_eq rfl
def cn (F : List Rn) : Nat → Nat
 | 0 => 0
 | p + 1 => cn F p + if (rnD F p).clean = true then 1 else 0
theorem cn_le (F : List Rn) : ∀ p, cn F p ≤ p
 | 0 => Nat.le_refl _
 | p + 1 => by have := cn_le F p; rw [cn]; split <;> omega
noncomputable def coR (runs : List (List Rn)) : Int × Int := if mb runs = true then (0, 2) else ((cn runs.flatten runs.flatten.length : Int), 0)
theorem coR_t {runs : List (List Rn)} (h : mb runs = true) : coR runs = (0, 2) := if_pos h
theorem coR_f {runs : List (List Rn)} (h : mb runs = false) : coR runs = ((cn runs.flatten runs.flatten.length : Int), 0) := if_neg (by rw [h]; decide)
theorem RG46 : (type_of% @c46r0.eq_1) ∧ (type_of% @c46r1.eq_1) ∧ (type_of% @c46r2.eq_1) ∧ (type_of% @c46r3.eq_1) ∧ (type_of% @c46r4.eq_1) ∧ (type_of% @c46r5.eq_1) ∧ (type_of% @c46r6.eq_1) ∧ (type_of% @c46r7.eq_1) ∧ (type_of% @c46r8.eq_1) ∧ (type_of% @c46r9.eq_1) ∧ (type_of% @c46r11.eq_1) := ⟨@c46r0.eq_1, @c46r1.eq_1, @c46r2.eq_1, @c46r3.eq_1, @c46r4.eq_1, @c46r5.eq_1, @c46r6.eq_1, @c46r7.eq_1, @c46r8.eq_1, @c46r9.eq_1, @c46r11.eq_1⟩
set_option maxHeartbeats 1000000 in
theorem pc46 (runs : List (List Rn)) (hn : runs.length ≤ 9223372036854775807) : PC Try.prog 46 [vRR runs] (.tu [.i .i64 (coR runs).1, .i .i64 (coR runs).2]) := by
 refine pc_fn fn46 (by simp only [AV.plains, AV.plain, il_plain, bl_plain, Bool.and_true, Bool.true_and, Bool.and_self, vRR_plain]) (by simp only [AV.plains, AV.plain, il_plain, bl_plain, Bool.and_true, Bool.true_and, Bool.and_self, vRR_plain]) (Nat.le_of_ble_eq_true rfl) ?_
 rw [initSt1]
 have q78 := pc78 runs hn
 cases hm : mb runs with
 | true =>
   rw [hm] at q78
   rw [coR_t hm]
   repeat' first | (with_reducible first | refine k_seq ?_ | refine k_skip ?_ | refine k_blkS ?_ | refine k_blkR ?_ | refine k_blkC ?_ | refine k_blkH ?_ | refine k_blkB ?_ | refine k_blkK ?_ | refine k_blkE ?_ | refine k_reg ?_) | with_reducible refine r_done ?_ | with_reducible refine s_go (by simp (disch := omega) only [RG46, EVA, plug, eq_self, simprocAttr]; with_reducible rfl) ?_ | ((with_reducible refine chk_r ?_); refine r_callF (by simp only [CA, simprocAttr]; rfl) (by exact rfl) (by simp only [CA, simprocAttr]; rfl) rfl ?_) | ((with_reducible refine chk_r ?_); refine r_callP (by simp only [CA, simprocAttr]; rfl) (by simp only [CA, simprocAttr]; rfl) (by first | exact q78 _) rfl ?_) | (with_reducible refine k_condP (by simp only [GA, simprocAttr]; rfl) (by first | (simp only [BO]; rfl) | rfl) (fun ht => ?_) (fun ht => ?_) <;> try (first | exact False.elim ht | exact absurd rfl ht | exact absurd trivial ht | exact Bool.noConfusion ht)) | (with_reducible refine k_ret ?_; repeat with_reducible (first | refine ret_thru ?_ | refine ret_blk ?_ | refine fin ?_)) | (with_reducible refine k_exit ?_; repeat with_reducible (first | refine thru ?_ | refine out_blk ?_ | refine pass (by decide) ?_)) | ((first | refine post1 ?_ | refine post2 ?_ | refine post3 ?_); simp only [GA, simprocAttr]) | refine post0 ?_
   all_goals first | exact ends_of | exact ends_eq rfl
 | false =>
 rw [hm] at q78
 rw [coR_f hm]
 obtain ⟨h1, h2, h3⟩ := mb_small hm
 have q81 := pc81 runs (by omega) (by omega)
 generalize runs.flatten = F at *
 repeat' first | (with_reducible first | refine k_seq ?_ | refine k_skip ?_ | refine k_blkS ?_ | refine k_blkR ?_ | refine k_blkC ?_ | refine k_blkH ?_ | refine k_blkB ?_ | refine k_blkK ?_ | refine k_blkE ?_ | refine k_reg ?_) | with_reducible refine r_done ?_ | with_reducible refine s_go (by simp (disch := omega) only [RG46, EVA, plug, eq_self, simprocAttr]; with_reducible rfl) ?_ | ((with_reducible refine chk_r ?_); refine r_callF (by simp only [CA, simprocAttr]; rfl) (by exact rfl) (by simp only [CA, simprocAttr]; rfl) rfl ?_) | ((with_reducible refine chk_r ?_); refine r_callP (by simp only [CA, simprocAttr]; rfl) (by simp only [CA, simprocAttr]; rfl) (by first | exact q78 _ | exact q81 _) rfl ?_) | (with_reducible refine k_condP (by simp only [GA, simprocAttr]; rfl) (by first | (simp only [BO]; rfl) | rfl) (fun ht => ?_) (fun ht => ?_) <;> try (first | exact False.elim ht | exact absurd rfl ht | exact absurd trivial ht | exact Bool.noConfusion ht)) | (with_reducible refine k_ret ?_; repeat with_reducible (first | refine ret_thru ?_ | refine ret_blk ?_ | refine fin ?_)) | (with_reducible refine k_exit ?_; repeat with_reducible (first | refine thru ?_ | refine out_blk ?_ | refine pass (by decide) ?_)) | ((first | refine post1 ?_ | refine post2 ?_ | refine post3 ?_); simp only [GA, simprocAttr]) | refine post0 ?_
 refine k_blk (k_loopS (X := Unit) [4, 10, 11, 12] F.length (fun k _ => [(4, .i .i64 (cn F k : Int)), (10, .vs F.length (fl eR F)), (11, .i .i64 F.length), (12, .i .i64 (k : Int))]) (fun b _ h => True) () (by simp only [Am.keep, List.map_cons, List.map_nil, GA, simprocAttr]; try rfl) trivial ?_)
 rintro k _ h hk - ok pos
 by_cases klt : k < F.length
 ·have klt' : (k : Int) < F.length := by omega
  have gr := rdR klt
  have s : cn F (k + 1) = cn F k + if (rnD F k).clean = true then 1 else 0 := rfl
  have cl := cn_le F k
  generalize rnD F k = r at *
  obtain ⟨_, _, _, rc⟩ := r
  simp only [eR] at *
  cases rc with
  | true =>
    rw [if_pos rfl] at s
    rw [s]
    repeat' first | (with_reducible first | refine k_seq ?_ | refine k_skip ?_ | refine k_blkS ?_ | refine k_blkR ?_ | refine k_blkC ?_ | refine k_blkH ?_ | refine k_blkB ?_ | refine k_blkK ?_ | refine k_blkE ?_ | refine k_reg ?_) | with_reducible refine r_done ?_ | with_reducible refine s_go (by simp (disch := omega) only [klt', gr, RG46, EVA, plug, eq_self, simprocAttr]; with_reducible rfl) ?_ | ((with_reducible refine chk_r ?_); refine r_callF (by simp only [CA, simprocAttr]; rfl) (by exact rfl) (by simp only [CA, simprocAttr]; rfl) rfl ?_) | (with_reducible refine k_condP (by simp only [GA, simprocAttr]; rfl) (by first | (simp only [BO]; rfl) | rfl) (fun ht => ?_) (fun ht => ?_) <;> try (first | exact False.elim ht | exact absurd rfl ht | exact absurd trivial ht | exact Bool.noConfusion ht)) | (with_reducible refine k_ret ?_; repeat with_reducible (first | refine ret_thru ?_ | refine ret_blk ?_ | refine fin ?_)) | (with_reducible refine k_exit ?_; repeat with_reducible (first | refine thru ?_ | refine out_blk ?_ | refine pass (by decide) ?_)) | ((first | refine post1 ?_ | refine post2 ?_ | refine post3 ?_); simp only [GA, simprocAttr]) | refine post0 ?_
    exact ⟨klt, (), (by simp only [Am.keep, List.map_cons, List.map_nil, GA, simprocAttr]; try rfl), trivial⟩
  | false =>
    rw [if_neg (by decide), Nat.add_zero] at s
    rw [s]
    repeat' first | (with_reducible first | refine k_seq ?_ | refine k_skip ?_ | refine k_blkS ?_ | refine k_blkR ?_ | refine k_blkC ?_ | refine k_blkH ?_ | refine k_blkB ?_ | refine k_blkK ?_ | refine k_blkE ?_ | refine k_reg ?_) | with_reducible refine r_done ?_ | with_reducible refine s_go (by simp (disch := omega) only [klt', gr, RG46, EVA, plug, eq_self, simprocAttr]; with_reducible rfl) ?_ | ((with_reducible refine chk_r ?_); refine r_callF (by simp only [CA, simprocAttr]; rfl) (by exact rfl) (by simp only [CA, simprocAttr]; rfl) rfl ?_) | (with_reducible refine k_condP (by simp only [GA, simprocAttr]; rfl) (by first | (simp only [BO]; rfl) | rfl) (fun ht => ?_) (fun ht => ?_) <;> try (first | exact False.elim ht | exact absurd rfl ht | exact absurd trivial ht | exact Bool.noConfusion ht)) | (with_reducible refine k_ret ?_; repeat with_reducible (first | refine ret_thru ?_ | refine ret_blk ?_ | refine fin ?_)) | (with_reducible refine k_exit ?_; repeat with_reducible (first | refine thru ?_ | refine out_blk ?_ | refine pass (by decide) ?_)) | ((first | refine post1 ?_ | refine post2 ?_ | refine post3 ?_); simp only [GA, simprocAttr]) | refine post0 ?_
    exact ⟨klt, (), (by simp only [Am.keep, List.map_cons, List.map_nil, GA, simprocAttr]; try rfl), trivial⟩
 ·obtain rfl : k = F.length := by omega
  have klt' : ¬ (F.length : Int) < F.length := by omega
  repeat' first | (with_reducible first | refine k_seq ?_ | refine k_skip ?_ | refine k_blkS ?_ | refine k_blkR ?_ | refine k_blkC ?_ | refine k_blkH ?_ | refine k_blkB ?_ | refine k_blkK ?_ | refine k_blkE ?_ | refine k_reg ?_) | with_reducible refine r_done ?_ | with_reducible refine s_go (by simp (disch := omega) only [klt', RG46, EVA, plug, eq_self, simprocAttr]; with_reducible rfl) ?_ | ((with_reducible refine chk_r ?_); refine r_callF (by simp only [CA, simprocAttr]; rfl) (by exact rfl) (by simp only [CA, simprocAttr]; rfl) rfl ?_) | (with_reducible refine k_condP (by simp only [GA, simprocAttr]; rfl) (by first | (simp only [BO]; rfl) | rfl) (fun ht => ?_) (fun ht => ?_) <;> try (first | exact False.elim ht | exact absurd rfl ht | exact absurd trivial ht | exact Bool.noConfusion ht)) | (with_reducible refine k_ret ?_; repeat with_reducible (first | refine ret_thru ?_ | refine ret_blk ?_ | refine fin ?_)) | (with_reducible refine k_exit ?_; repeat with_reducible (first | refine thru ?_ | refine out_blk ?_ | refine pass (by decide) ?_)) | ((first | refine post1 ?_ | refine post2 ?_ | refine post3 ?_); simp only [GA, simprocAttr]) | refine post0 ?_
  all_goals first | exact ends_of | exact ends_eq rfl
def crw (runs : List (List Rn)) : Prop := (∃ i, i < runs.length ∧ 110 < (rw_ runs i).length) ∨ 12 < runs.length
noncomputable def crB (runs : List (List Rn)) : Bool := @decide (crw runs) (Classical.propDecidable _)
theorem crB_t {runs : List (List Rn)} (h : crw runs) : crB runs = true := by unfold crB; exact @decide_eq_true _ (Classical.propDecidable _) h
theorem crB_f {runs : List (List Rn)} (h : ¬ crw runs) : crB runs = false := by unfold crB; exact @decide_eq_false _ (Classical.propDecidable _) h
theorem RG41 : (type_of% @c41r0.eq_1) ∧ (type_of% @c41r1.eq_1) ∧ (type_of% @c41r2.eq_1) ∧ (type_of% @c41r3.eq_1) ∧ (type_of% @c41r4.eq_1) ∧ (type_of% @c41r5.eq_1) ∧ (type_of% @c41r7.eq_1) := ⟨@c41r0.eq_1, @c41r1.eq_1, @c41r2.eq_1, @c41r3.eq_1, @c41r4.eq_1, @c41r5.eq_1, @c41r7.eq_1⟩
theorem pc41 (runs : List (List Rn)) (hn : runs.length ≤ 9223372036854775807) : PC Try.prog 41 [vRR runs] (.b (crB runs)) := by
 refine pc_fn fn41 (by simp only [AV.plains, AV.plain, il_plain, bl_plain, Bool.and_true, Bool.true_and, Bool.and_self, vRR_plain]) (by simp only [AV.plains, AV.plain, il_plain, bl_plain, Bool.and_true, Bool.true_and, Bool.and_self, vRR_plain]) (Nat.le_of_ble_eq_true rfl) ?_
 rw [initSt1]
 repeat' first | (with_reducible first | refine k_seq ?_ | refine k_skip ?_ | refine k_blkS ?_ | refine k_blkR ?_ | refine k_blkC ?_ | refine k_blkH ?_ | refine k_blkB ?_ | refine k_blkK ?_ | refine k_blkE ?_ | refine k_reg ?_) | with_reducible refine r_done ?_ | with_reducible refine s_go (by simp (disch := omega) only [RG41, EVA, plug, eq_self, simprocAttr]; with_reducible rfl) ?_ | ((with_reducible refine chk_r ?_); refine r_callF (by simp only [CA, simprocAttr]; rfl) (by exact rfl) (by simp only [CA, simprocAttr]; rfl) rfl ?_) | (with_reducible refine k_condP (by simp only [GA, simprocAttr]; rfl) (by first | (simp only [BO]; rfl) | rfl) (fun ht => ?_) (fun ht => ?_) <;> try (first | exact False.elim ht | exact absurd rfl ht | exact absurd trivial ht | exact Bool.noConfusion ht)) | (with_reducible refine k_ret ?_; repeat with_reducible (first | refine ret_thru ?_ | refine ret_blk ?_ | refine fin ?_)) | (with_reducible refine k_exit ?_; repeat with_reducible (first | refine thru ?_ | refine out_blk ?_ | refine pass (by decide) ?_)) | ((first | refine post1 ?_ | refine post2 ?_ | refine post3 ?_); simp only [GA, simprocAttr]) | refine post0 ?_
 refine k_blk (k_loopS (X := Unit) [0, 3] runs.length (fun k _ => [(0, vRR runs), (3, .i .i64 (k : Int))]) (fun k _ h => ∀ j, j < k → ¬ 110 < (rw_ runs j).length) () (by simp only [Am.keep, List.map_cons, List.map_nil, GA, simprocAttr]; try rfl) (fun j hj => by omega) ?_)
 rintro k _ h hk hf ok pos
 by_cases hlt : k < runs.length
 ·have hlt' : (k : Int) < runs.length := by omega
  have g := vrr_get hlt
  by_cases q : 110 < (rw_ runs k).length
  ·have q' : (110 : Int) < (rw_ runs k).length := by omega
   rw [crB_t (.inl ⟨k, hlt, q⟩)]
   repeat' first | (with_reducible first | refine k_seq ?_ | refine k_skip ?_ | refine k_blkS ?_ | refine k_blkR ?_ | refine k_blkC ?_ | refine k_blkH ?_ | refine k_blkB ?_ | refine k_blkK ?_ | refine k_blkE ?_ | refine k_reg ?_) | with_reducible refine r_done ?_ | with_reducible refine s_go (by simp (disch := omega) only [hlt', g, q', RG41, EVA, plug, eq_self, simprocAttr]; with_reducible rfl) ?_ | ((with_reducible refine chk_r ?_); refine r_callF (by simp only [CA, simprocAttr]; rfl) (by exact rfl) (by simp only [CA, simprocAttr]; rfl) rfl ?_) | (with_reducible refine k_condP (by simp only [GA, simprocAttr]; rfl) (by first | (simp only [BO]; rfl) | rfl) (fun ht => ?_) (fun ht => ?_) <;> try (first | exact False.elim ht | exact absurd rfl ht | exact absurd trivial ht | exact Bool.noConfusion ht)) | (with_reducible refine k_ret ?_; repeat with_reducible (first | refine ret_thru ?_ | refine ret_blk ?_ | refine fin ?_)) | (with_reducible refine k_exit ?_; repeat with_reducible (first | refine thru ?_ | refine out_blk ?_ | refine pass (by decide) ?_)) | ((first | refine post1 ?_ | refine post2 ?_ | refine post3 ?_); simp only [GA, simprocAttr]) | refine post0 ?_
   all_goals first | exact ends_of | exact ends_eq rfl
  ·have q' : ¬ (110 : Int) < (rw_ runs k).length := by omega
   repeat' first | (with_reducible first | refine k_seq ?_ | refine k_skip ?_ | refine k_blkS ?_ | refine k_blkR ?_ | refine k_blkC ?_ | refine k_blkH ?_ | refine k_blkB ?_ | refine k_blkK ?_ | refine k_blkE ?_ | refine k_reg ?_) | with_reducible refine r_done ?_ | with_reducible refine s_go (by simp (disch := omega) only [hlt', g, q', RG41, EVA, plug, eq_self, simprocAttr]; with_reducible rfl) ?_ | ((with_reducible refine chk_r ?_); refine r_callF (by simp only [CA, simprocAttr]; rfl) (by exact rfl) (by simp only [CA, simprocAttr]; rfl) rfl ?_) | (with_reducible refine k_condP (by simp only [GA, simprocAttr]; rfl) (by first | (simp only [BO]; rfl) | rfl) (fun ht => ?_) (fun ht => ?_) <;> try (first | exact False.elim ht | exact absurd rfl ht | exact absurd trivial ht | exact Bool.noConfusion ht)) | (with_reducible refine k_ret ?_; repeat with_reducible (first | refine ret_thru ?_ | refine ret_blk ?_ | refine fin ?_)) | (with_reducible refine k_exit ?_; repeat with_reducible (first | refine thru ?_ | refine out_blk ?_ | refine pass (by decide) ?_)) | ((first | refine post1 ?_ | refine post2 ?_ | refine post3 ?_); simp only [GA, simprocAttr]) | refine post0 ?_
   refine ⟨hlt, (), (by simp only [Am.keep, List.map_cons, List.map_nil, GA, simprocAttr]; try rfl), fun j hj => ?_⟩
   by_cases e : j = k
   ·subst e; exact q
   ·exact hf j (by omega)
 ·obtain rfl : k = runs.length := by omega
  have hlt' : ¬ (runs.length : Int) < runs.length := by omega
  by_cases c : 12 < runs.length
  ·have c' : (12 : Int) < runs.length := by omega
   rw [crB_t (.inr c)]
   repeat' first | (with_reducible first | refine k_seq ?_ | refine k_skip ?_ | refine k_blkS ?_ | refine k_blkR ?_ | refine k_blkC ?_ | refine k_blkH ?_ | refine k_blkB ?_ | refine k_blkK ?_ | refine k_blkE ?_ | refine k_reg ?_) | with_reducible refine r_done ?_ | with_reducible refine s_go (by simp (disch := omega) only [hlt', c', RG41, EVA, plug, eq_self, simprocAttr]; with_reducible rfl) ?_ | ((with_reducible refine chk_r ?_); refine r_callF (by simp only [CA, simprocAttr]; rfl) (by exact rfl) (by simp only [CA, simprocAttr]; rfl) rfl ?_) | (with_reducible refine k_condP (by simp only [GA, simprocAttr]; rfl) (by first | (simp only [BO]; rfl) | rfl) (fun ht => ?_) (fun ht => ?_) <;> try (first | exact False.elim ht | exact absurd rfl ht | exact absurd trivial ht | exact Bool.noConfusion ht)) | (with_reducible refine k_ret ?_; repeat with_reducible (first | refine ret_thru ?_ | refine ret_blk ?_ | refine fin ?_)) | (with_reducible refine k_exit ?_; repeat with_reducible (first | refine thru ?_ | refine out_blk ?_ | refine pass (by decide) ?_)) | ((first | refine post1 ?_ | refine post2 ?_ | refine post3 ?_); simp only [GA, simprocAttr]) | refine post0 ?_
   all_goals first | exact ends_of | exact ends_eq rfl
  ·have c' : ¬ (12 : Int) < runs.length := by omega
   rw [crB_f (by rintro (⟨i, hi, z⟩ | z); exact hf i hi z; exact c z)]
   repeat' first | (with_reducible first | refine k_seq ?_ | refine k_skip ?_ | refine k_blkS ?_ | refine k_blkR ?_ | refine k_blkC ?_ | refine k_blkH ?_ | refine k_blkB ?_ | refine k_blkK ?_ | refine k_blkE ?_ | refine k_reg ?_) | with_reducible refine r_done ?_ | with_reducible refine s_go (by simp (disch := omega) only [hlt', c', RG41, EVA, plug, eq_self, simprocAttr]; with_reducible rfl) ?_ | ((with_reducible refine chk_r ?_); refine r_callF (by simp only [CA, simprocAttr]; rfl) (by exact rfl) (by simp only [CA, simprocAttr]; rfl) rfl ?_) | (with_reducible refine k_condP (by simp only [GA, simprocAttr]; rfl) (by first | (simp only [BO]; rfl) | rfl) (fun ht => ?_) (fun ht => ?_) <;> try (first | exact False.elim ht | exact absurd rfl ht | exact absurd trivial ht | exact Bool.noConfusion ht)) | (with_reducible refine k_ret ?_; repeat with_reducible (first | refine ret_thru ?_ | refine ret_blk ?_ | refine fin ?_)) | (with_reducible refine k_exit ?_; repeat with_reducible (first | refine thru ?_ | refine out_blk ?_ | refine pass (by decide) ?_)) | ((first | refine post1 ?_ | refine post2 ?_ | refine post3 ?_); simp only [GA, simprocAttr]) | refine post0 ?_
   all_goals first | exact ends_of | exact ends_eq rfl
end Go.Proofs.Ytjncfpfgobojpaa
set_option linter.unusedVariables false
set_option linter.unusedSimpArgs false
namespace Go.Proofs.Ytjncfpfgobojpaa
open Go Go.Am Go.Proofs Go.Sort
def eX (r : List Rn) : List AV := [.vs r.length (fl eR r)]
end Go.Proofs.Ytjncfpfgobojpaa
set_option linter.unusedVariables false
set_option linter.unusedSimpArgs false
namespace Go.Proofs.Ytjncfpfgobojpaa
open Go Go.Am Go.Proofs Go.Sort
abbrev fd (f : List Int) (j : Nat) : Int := f.getD j 0
def fmn (f : List Int) : Nat → Nat
 | 0 => 0
 | k + 1 => if fd f k < fd f (fmn f k) then k else fmn f k
theorem fmn_rng (f : List Int) : ∀ {k}, 0 < k → fmn f k < k
 | 0, h => by omega
 | k + 1, _ => by
   rw [fmn]
   split
   ·omega
   ·by_cases z : k = 0
    ·subst z; exact Nat.lt_succ_self _
    ·have := fmn_rng f (k := k) (by omega); omega
theorem fmn_le (f : List Int) : ∀ {k j}, j < k → fd f (fmn f k) ≤ fd f j
 | 0, j, h => by omega
 | k + 1, j, h => by
   rw [fmn]
   by_cases e : j = k
   ·subst e; split <;> omega
   ·have := fmn_le f (k := k) (j := j) (by omega)
    split <;> omega
theorem fmn_lt (f : List Int) : ∀ {k j}, j < fmn f k → fd f (fmn f k) < fd f j
 | 0, j, h => by simp [fmn] at h
 | k + 1, j, h => by
   rw [fmn] at h ⊢
   split at h
   ·rename_i q
    rw [if_pos q]
    have := fmn_le f (k := k) (j := j) (by omega)
    omega
   ·rename_i q
    rw [if_neg q]
    exact fmn_lt f h
def rT (l : List B) (c : Int) (row : List Int) (t : Int) : Nat → Int
 | 0 => t
 | k + 1 => rT l c row t k + hrs (bD l (ni row k).toNat) + if k = 0 then c else 0
def rR (l : List B) (c : Int) (row : List Int) (t : Int) (k : Nat) : Rn := ⟨ni row k, rT l c row t k, rT l c row t (k + 1), decide (k = 0)⟩
def rRs (l : List B) (c : Int) (row : List Int) (t : Int) (k : Nat) : List Rn := (List.range k).map (rR l c row t)
theorem rRs_zero (l : List B) (c : Int) (row : List Int) (t : Int) : rRs l c row t 0 = [] := rfl
theorem rRs_succ (l : List B) (c : Int) (row : List Int) (t : Int) (k : Nat) : rRs l c row t (k + 1) = rRs l c row t k ++ [rR l c row t k] := by
 unfold rRs; rw [List.range_succ, List.map_append]; rfl
theorem rRs_len (l : List B) (c : Int) (row : List Int) (t : Int) (k : Nat) : (rRs l c row t k).length = k := by simp [rRs]
def asg (l : List B) (c : Int) (n : Nat) (rows : List (List Int)) : Nat → List (List Rn) × List Int
 | 0 => (List.replicate n [], List.replicate n 0)
 | i + 1 => ((asg l c n rows i).1.set (fmn (asg l c n rows i).2 n) ((asg l c n rows i).1.getD (fmn (asg l c n rows i).2 n) [] ++ rRs l c (rI rows i) (fd (asg l c n rows i).2 (fmn (asg l c n rows i).2 n)) (rI rows i).length),
     (asg l c n rows i).2.set (fmn (asg l c n rows i).2 n) (rT l c (rI rows i) (fd (asg l c n rows i).2 (fmn (asg l c n rows i).2 n)) (rI rows i).length))
def IXs (l : List B) (rows : List (List Int)) : Prop := ∀ i, i < rows.length → ∀ k, k < (rI rows i).length → 0 ≤ ni (rI rows i) k ∧ ni (rI rows i) k < l.length
theorem IXs.of {l : List B} {rows : List (List Int)} (h : IX l rows.flatten) : IXs l rows := fun i hi k hk => by
 have e : ni (rI rows i) k = (rI rows i)[k] := by simp only [ni]; exact getD_lt hk _
 rw [e]
 exact h _ (List.mem_flatten.2 ⟨rI rows i, by simp [rI, hi], List.getElem_mem hk⟩)
theorem rT_rng {l : List B} (hv : VL l) {c : Int} (hc : 0 ≤ c ∧ c ≤ 100) {row : List Int} (ix : ∀ k, k < row.length → 0 ≤ ni row k ∧ ni row k < l.length) (t : Int) : ∀ {k}, k ≤ row.length → t ≤ rT l c row t k ∧ rT l c row t k ≤ t + 500 * k
 | 0, _ => by simp [rT]
 | k + 1, h => by
   have := rT_rng hv hc ix t (k := k) (by omega)
   have q := ix k (by omega)
   have := hrs_rng (hv.b (i := (ni row k).toNat) (by omega))
   rw [rT]
   split <;> omega
structure AsOK (n : Nat) (s : List (List Rn) × List Int) (i : Nat) : Prop where
 l1 : s.1.length = n
 l2 : s.2.length = n
 f : ∀ j, j < n → 0 ≤ fd s.2 j ∧ fd s.2 j ≤ 30000 * i
 r : ∀ j, j < n → (s.1.getD j []).length ≤ 60 * i
theorem getD_set_i {α : Type} {l : List α} {i j : Nat} {x d : α} (hi : i < l.length) : (l.set i x).getD j d = if j = i then x else l.getD j d := by
 by_cases e : j = i
 ·subst e; simp [List.getD_eq_getElem?_getD, hi]
 ·have : ¬ i = j := fun q => e q.symm
  simp [List.getD_eq_getElem?_getD, List.getElem?_set, this, e]
theorem asg_ok {l : List B} (hv : VL l) {c : Int} (hc : 0 ≤ c ∧ c ≤ 100) {n : Nat} (hn : 0 < n) {rows : List (List Int)} (ix : IXs l rows) (hr : ∀ i, i < rows.length → (rI rows i).length ≤ 60) : ∀ {i}, i ≤ rows.length → AsOK n (asg l c n rows i) i
 | 0, _ => ⟨by simp [asg], by simp [asg], fun j hj => by simp [asg, fd, hj], fun j hj => by simp [asg, hj]⟩
 | i + 1, h => by
   have ih := asg_ok hv hc hn ix hr (i := i) (by omega)
   have q := hr i (by omega)
   have fr := fmn_rng (asg l c n rows i).2 hn
   have tr := rT_rng hv hc (ix i (by omega)) (fd (asg l c n rows i).2 (fmn (asg l c n rows i).2 n)) (Nat.le_refl _)
   have fa := ih.f _ fr
   have ra := ih.r _ fr
   have l1 := ih.l1
   have l2 := ih.l2
   refine ⟨by rw [asg, List.length_set]; exact l1, by rw [asg, List.length_set]; exact l2, fun j hj => ?_, fun j hj => ?_⟩
   ·have := ih.f j hj
    rw [asg]
    simp only [fd]
    rw [getD_set_i (by omega)]
    simp only [fd] at *
    split <;> omega
   ·have := ih.r j hj
    rw [asg]
    simp only
    rw [getD_set_i (by omega)]
    split
    ·rw [List.length_append, rRs_len]; omega
    ·omega
open Classical in
noncomputable def asR (l : List B) (rows : List (List Int)) (b c : Int) : List (List Rn) × Int :=
 if ck l rows = 0 then if bOK b c then ((asg l c b.toNat rows rows.length).1, 0) else ([], 2) else ([], ck l rows)
theorem asR_ck {l : List B} {rows : List (List Int)} {b c : Int} (h : ck l rows ≠ 0) : asR l rows b c = ([], ck l rows) := by unfold asR; rw [if_neg h]
theorem asR_no {l : List B} {rows : List (List Int)} {b c : Int} (h : ck l rows = 0) (g : ¬ bOK b c) : asR l rows b c = ([], 2) := by unfold asR; rw [if_pos h, if_neg g]
theorem asR_go {l : List B} {rows : List (List Int)} {b c : Int} (h : ck l rows = 0) (g : bOK b c) : asR l rows b c = ((asg l c b.toNat rows rows.length).1, 0) := by unfold asR; rw [if_pos h, if_pos g]
theorem RG77 : (type_of% @c77r0.eq_1) ∧ (type_of% @c77r1.eq_1) ∧ (type_of% @c77r2.eq_1) ∧ (type_of% @c77r3.eq_1) ∧ (type_of% @c77r4.eq_1) ∧ (type_of% @c77r5.eq_1) ∧ (type_of% @c77r6.eq_1) ∧ (type_of% @c77r8.eq_1) := ⟨@c77r0.eq_1, @c77r1.eq_1, @c77r2.eq_1, @c77r3.eq_1, @c77r4.eq_1, @c77r5.eq_1, @c77r6.eq_1, @c77r8.eq_1⟩
theorem pc77 (f : List Int) (h0 : 0 < f.length) (hl : f.length ≤ 1000000) (hw : ∀ j, j < f.length → i64 (fd f j)) : PC Try.prog 77 [.vs f.length (il f)] (.i .i64 (fd f (fmn f f.length))) := by
 have g0 := il_get (l := f) (j := 0) h0
 have nl : ¬ (f.length : Int) < 1 := by omega
 have q1 : (0 : Int) < f.length := by omega
 refine pc_fn fn77 (by simp only [AV.plains, AV.plain, il_plain, bl_plain, Bool.and_true, Bool.true_and, Bool.and_self]) (by simp only [AV.plains, AV.plain, il_plain, bl_plain, Bool.and_true, Bool.true_and, Bool.and_self]) (Nat.le_of_ble_eq_true rfl) ?_
 rw [initSt1]
 have z : fmn f (0 + 1) = 0 := by simp [fmn]
 repeat' first | (with_reducible first | refine k_seq ?_ | refine k_skip ?_ | refine k_blkS ?_ | refine k_blkR ?_ | refine k_blkC ?_ | refine k_blkH ?_ | refine k_blkB ?_ | refine k_blkK ?_ | refine k_blkE ?_ | refine k_reg ?_) | with_reducible refine r_done ?_ | with_reducible refine s_go (by simp (disch := omega) only [g0, nl, q1, RG77, EVA, plug, eq_self, simprocAttr]; with_reducible rfl) ?_ | ((with_reducible refine chk_r ?_); refine r_callF (by simp only [CA, simprocAttr]; rfl) (by exact rfl) (by simp only [CA, simprocAttr]; rfl) rfl ?_) | (with_reducible refine k_condP (by simp only [GA, simprocAttr]; rfl) (by first | (simp only [BO]; rfl) | rfl) (fun ht => ?_) (fun ht => ?_) <;> try (first | exact False.elim ht | exact absurd rfl ht | exact absurd trivial ht | exact Bool.noConfusion ht)) | (with_reducible refine k_ret ?_; repeat with_reducible (first | refine ret_thru ?_ | refine ret_blk ?_ | refine fin ?_)) | (with_reducible refine k_exit ?_; repeat with_reducible (first | refine thru ?_ | refine out_blk ?_ | refine pass (by decide) ?_)) | ((first | refine post1 ?_ | refine post2 ?_ | refine post3 ?_); simp only [GA, simprocAttr]) | refine post0 ?_
 refine k_blk (k_loopS (X := Unit) [0, 3, 4] (f.length - 1) (fun k _ => [(0, .vs f.length (il f)), (3, .i .i64 (fd f (fmn f (k + 1)))), (4, .i .i64 ((k + 1 : Nat) : Int))]) (fun k _ h => True) () (by simp only [Am.keep, List.map_cons, List.map_nil, GA, Nat.reduceEqDiff, ↓reduceIte, z]; try rfl) trivial ?_)
 rintro k _ h hk - ok pos
 by_cases hlt : k < f.length - 1
 ·have hlt' : ((k + 1 : Nat) : Int) < f.length := by omega
  have g := il_get (l := f) (j := k + 1) (by omega)
  have e : fd f (fmn f (k + 1 + 1)) = min (fd f (fmn f (k + 1))) (fd f (k + 1)) := by
   rw [fmn]; split <;> omega
  repeat' first | (with_reducible first | refine k_seq ?_ | refine k_skip ?_ | refine k_blkS ?_ | refine k_blkR ?_ | refine k_blkC ?_ | refine k_blkH ?_ | refine k_blkB ?_ | refine k_blkK ?_ | refine k_blkE ?_ | refine k_reg ?_) | with_reducible refine r_done ?_ | with_reducible refine s_go (by simp (disch := omega) only [hlt', g, RG77, EVA, plug, eq_self, simprocAttr]; with_reducible rfl) ?_ | ((with_reducible refine chk_r ?_); refine r_callF (by simp only [CA, simprocAttr]; rfl) (by exact rfl) (by simp only [CA, simprocAttr]; rfl) rfl ?_) | (with_reducible refine k_condP (by simp only [GA, simprocAttr]; rfl) (by first | (simp only [BO]; rfl) | rfl) (fun ht => ?_) (fun ht => ?_) <;> try (first | exact False.elim ht | exact absurd rfl ht | exact absurd trivial ht | exact Bool.noConfusion ht)) | (with_reducible refine k_ret ?_; repeat with_reducible (first | refine ret_thru ?_ | refine ret_blk ?_ | refine fin ?_)) | (with_reducible refine k_exit ?_; repeat with_reducible (first | refine thru ?_ | refine out_blk ?_ | refine pass (by decide) ?_)) | ((first | refine post1 ?_ | refine post2 ?_ | refine post3 ?_); simp only [GA, simprocAttr]) | refine post0 ?_
  exact ⟨hlt, (), (by simp only [Am.keep, List.map_cons, List.map_nil, GA, Nat.reduceEqDiff, ↓reduceIte, e]; try rfl), trivial⟩
 ·obtain rfl : k = f.length - 1 := by omega
  have hlt' : ¬ ((f.length - 1 + 1 : Nat) : Int) < f.length := by omega
  have e : f.length - 1 + 1 = f.length := by omega
  rw [e] at hlt' ⊢
  repeat' first | (with_reducible first | refine k_seq ?_ | refine k_skip ?_ | refine k_blkS ?_ | refine k_blkR ?_ | refine k_blkC ?_ | refine k_blkH ?_ | refine k_blkB ?_ | refine k_blkK ?_ | refine k_blkE ?_ | refine k_reg ?_) | with_reducible refine r_done ?_ | with_reducible refine s_go (by simp (disch := omega) only [hlt', RG77, EVA, plug, eq_self, simprocAttr]; with_reducible rfl) ?_ | ((with_reducible refine chk_r ?_); refine r_callF (by simp only [CA, simprocAttr]; rfl) (by exact rfl) (by simp only [CA, simprocAttr]; rfl) rfl ?_) | (with_reducible refine k_condP (by simp only [GA, simprocAttr]; rfl) (by first | (simp only [BO]; rfl) | rfl) (fun ht => ?_) (fun ht => ?_) <;> try (first | exact False.elim ht | exact absurd rfl ht | exact absurd trivial ht | exact Bool.noConfusion ht)) | (with_reducible refine k_ret ?_; repeat with_reducible (first | refine ret_thru ?_ | refine ret_blk ?_ | refine fin ?_)) | (with_reducible refine k_exit ?_; repeat with_reducible (first | refine thru ?_ | refine out_blk ?_ | refine pass (by decide) ?_)) | ((first | refine post1 ?_ | refine post2 ?_ | refine post3 ?_); simp only [GA, simprocAttr]) | refine post0 ?_
  all_goals first | exact ends_of | exact ends_eq rfl
theorem RG76 : (type_of% @c76r0.eq_1) ∧ (type_of% @c76r1.eq_1) ∧ (type_of% @c76r2.eq_1) ∧ (type_of% @c76r3.eq_1) ∧ (type_of% @c76r4.eq_1) ∧ (type_of% @c76r5.eq_1) ∧ (type_of% @c76r6.eq_1) ∧ (type_of% @c76r8.eq_1) := ⟨@c76r0.eq_1, @c76r1.eq_1, @c76r2.eq_1, @c76r3.eq_1, @c76r4.eq_1, @c76r5.eq_1, @c76r6.eq_1, @c76r8.eq_1⟩
theorem pc76 (f : List Int) (hl : f.length ≤ 1000000) {n : Nat} (hn : n < f.length) (ne : ∀ j, j < n → fd f j ≠ fd f n) : PC Try.prog 76 [.vs f.length (il f), .i .i64 (fd f n)] (.i .i64 (n : Int)) := by
 refine pc_fn fn76 (by simp only [AV.plains, AV.plain, il_plain, bl_plain, Bool.and_true, Bool.true_and, Bool.and_self]) (by simp only [AV.plains, AV.plain, il_plain, bl_plain, Bool.and_true, Bool.true_and, Bool.and_self]) (Nat.le_of_ble_eq_true rfl) ?_
 rw [initSt2]
 repeat' first | (with_reducible first | refine k_seq ?_ | refine k_skip ?_ | refine k_blkS ?_ | refine k_blkR ?_ | refine k_blkC ?_ | refine k_blkH ?_ | refine k_blkB ?_ | refine k_blkK ?_ | refine k_blkE ?_ | refine k_reg ?_) | with_reducible refine r_done ?_ | with_reducible refine s_go (by simp (disch := omega) only [RG76, EVA, plug, eq_self, simprocAttr]; with_reducible rfl) ?_ | ((with_reducible refine chk_r ?_); refine r_callF (by simp only [CA, simprocAttr]; rfl) (by exact rfl) (by simp only [CA, simprocAttr]; rfl) rfl ?_) | (with_reducible refine k_condP (by simp only [GA, simprocAttr]; rfl) (by first | (simp only [BO]; rfl) | rfl) (fun ht => ?_) (fun ht => ?_) <;> try (first | exact False.elim ht | exact absurd rfl ht | exact absurd trivial ht | exact Bool.noConfusion ht)) | (with_reducible refine k_ret ?_; repeat with_reducible (first | refine ret_thru ?_ | refine ret_blk ?_ | refine fin ?_)) | (with_reducible refine k_exit ?_; repeat with_reducible (first | refine thru ?_ | refine out_blk ?_ | refine pass (by decide) ?_)) | ((first | refine post1 ?_ | refine post2 ?_ | refine post3 ?_); simp only [GA, simprocAttr]) | refine post0 ?_
 refine k_blk (k_loopS (X := Unit) [0, 1, 7, 8] n (fun k _ => [(0, .vs f.length (il f)), (1, .i .i64 (fd f n)), (7, .i .i64 f.length), (8, .i .i64 (k : Int))]) (fun k _ h => True) () (by simp only [Am.keep, List.map_cons, List.map_nil, GA, simprocAttr]; try rfl) trivial ?_)
 rintro k _ h hk - ok pos
 have hlt' : (k : Int) < f.length := by omega
 have g := il_get (l := f) (j := k) (by omega)
 by_cases hlt : k < n
 ·have q := eq_false (show ¬ fd f n = f.getD k 0 from fun z => ne k hlt z.symm)
  repeat' first | (with_reducible first | refine k_seq ?_ | refine k_skip ?_ | refine k_blkS ?_ | refine k_blkR ?_ | refine k_blkC ?_ | refine k_blkH ?_ | refine k_blkB ?_ | refine k_blkK ?_ | refine k_blkE ?_ | refine k_reg ?_) | with_reducible refine r_done ?_ | with_reducible refine s_go (by simp (disch := omega) only [hlt', g, q, RG76, EVA, plug, eq_self, simprocAttr]; with_reducible rfl) ?_ | ((with_reducible refine chk_r ?_); refine r_callF (by simp only [CA, simprocAttr]; rfl) (by exact rfl) (by simp only [CA, simprocAttr]; rfl) rfl ?_) | (with_reducible refine k_condP (by simp only [GA, simprocAttr]; rfl) (by first | (simp only [BO]; rfl) | rfl) (fun ht => ?_) (fun ht => ?_) <;> try (first | exact False.elim ht | exact absurd rfl ht | exact absurd trivial ht | exact Bool.noConfusion ht)) | (with_reducible refine k_ret ?_; repeat with_reducible (first | refine ret_thru ?_ | refine ret_blk ?_ | refine fin ?_)) | (with_reducible refine k_exit ?_; repeat with_reducible (first | refine thru ?_ | refine out_blk ?_ | refine pass (by decide) ?_)) | ((first | refine post1 ?_ | refine post2 ?_ | refine post3 ?_); simp only [GA, simprocAttr]) | refine post0 ?_
  exact ⟨hlt, (), (by simp only [Am.keep, List.map_cons, List.map_nil, GA, simprocAttr]; try rfl), trivial⟩
 ·obtain rfl : k = n := by omega
  repeat' first | (with_reducible first | refine k_seq ?_ | refine k_skip ?_ | refine k_blkS ?_ | refine k_blkR ?_ | refine k_blkC ?_ | refine k_blkH ?_ | refine k_blkB ?_ | refine k_blkK ?_ | refine k_blkE ?_ | refine k_reg ?_) | with_reducible refine r_done ?_ | with_reducible refine s_go (by simp (disch := omega) only [hlt', g, RG76, EVA, plug, eq_self, simprocAttr]; with_reducible rfl) ?_ | ((with_reducible refine chk_r ?_); refine r_callF (by simp only [CA, simprocAttr]; rfl) (by exact rfl) (by simp only [CA, simprocAttr]; rfl) rfl ?_) | (with_reducible refine k_condP (by simp only [GA, simprocAttr]; rfl) (by first | (simp only [BO]; rfl) | rfl) (fun ht => ?_) (fun ht => ?_) <;> try (first | exact False.elim ht | exact absurd rfl ht | exact absurd trivial ht | exact Bool.noConfusion ht)) | (with_reducible refine k_ret ?_; repeat with_reducible (first | refine ret_thru ?_ | refine ret_blk ?_ | refine fin ?_)) | (with_reducible refine k_exit ?_; repeat with_reducible (first | refine thru ?_ | refine out_blk ?_ | refine pass (by decide) ?_)) | ((first | refine post1 ?_ | refine post2 ?_ | refine post3 ?_); simp only [GA, simprocAttr]) | refine post0 ?_
  all_goals first | exact ends_of | exact ends_eq rfl
end Go.Proofs.Ytjncfpfgobojpaa
set_option linter.unusedVariables false
set_option linter.unusedSimpArgs false
namespace Go.Am
theorem cell_world {ι : Inj} {h : AH} {w : World} {s : Nat} {wr : Bool} {ds ds' : List AV} (r : WRel ι h w) (hm : h.m s = some (.cells wr ds)) (hl : ds'.length = ds.length)
 (hd : ∀ (i : Nat) (a : AV), ds'[i]? = some a → ∃ v, ds[i]? = some v ∧ ∀ u, VRel ι v u → VRel ι a u) :
 WRel ι (h.set s (.cells wr ds')) w ∧ Ext ι h w ι (h.set s (.cells wr ds')) w := by
 have old : ∀ t c, (h.set s (.cells wr ds')).m t = some c → ∃ c0, h.m t = some c0 ∧ c0.wr = c.wr := fun t c hc => by
  unfold AH.set at hc
  by_cases e : t = s
  ·subst e; simp only [if_true, Option.some.injEq] at hc; exact ⟨_, hm, by rw [← hc]; rfl⟩
  ·simp only [if_neg e] at hc; exact ⟨c, hc, rfl⟩
 refine ⟨⟨r.lt, fun t c hc => ?_, fun t t' l l' c c' h1 h2 h3 h4 h5 h6 => ?_, r.pos, r.nil, fun b xs hb => ⟨(r.phi b xs hb).1, fun t c l hc hw hl => ?_⟩⟩, ⟨Nat.le_refl _, fun _ _ => rfl, rfl, rfl, rfl, Nat.le_refl _, fun _ _ _ => rfl, fun t c l hc hw hl => ?_, fun _ _ x => x, fun _ _ x => .inl x, Nat.le_refl _⟩⟩
 ·unfold AH.set at hc
  by_cases e : t = s
  ·subst e
   simp only [if_true, Option.some.injEq] at hc
   subst hc
   refine ⟨(r.blk t _ hm).1, ?_⟩
   have hb := (r.blk t _ hm).2
   simp only [BRel] at hb ⊢
   rcases hb with ⟨rfl, hn⟩ | ⟨l, vs, e, fz, h1, h2, h3, h4, h5, h6⟩
   ·exact .inl ⟨List.length_eq_zero_iff.1 (by rw [hl]; rfl), hn⟩
   ·refine .inr ⟨l, vs, e, fz, h1, h2, h3, by rw [hl]; exact h4, h5, fun i a ha => ?_⟩
    obtain ⟨v, hv, hvv⟩ := hd i a ha
    obtain ⟨u, hu, hr⟩ := h6 i v hv
    exact ⟨u, hu, hvv u hr⟩
  ·simp only [if_neg e] at hc
   exact r.blk t c hc
 ·obtain ⟨c0, q1, q2⟩ := old t c h1
  obtain ⟨c0', q3, q4⟩ := old t' c' h2
  exact r.inj t t' l l' c0 c0' q1 q3 h3 h4 h5 (by rw [q2, q4]; exact h6)
 ·obtain ⟨c0, q1, q2⟩ := old t c hc
  exact (r.phi b xs hb).2 t c0 l q1 (q2.trans hw) hl
 ·obtain ⟨c0, q1, q2⟩ := old t c hc
  exact .inr ⟨t, c0, l, q1, q2.trans hw, hl, rfl⟩
theorem virt_world {ι : Inj} {h : AH} {wd : World} (wr : WRel ι h wd) : ι h.nx = none ∧ WRel ι ((h.bump 1).set h.nx (.cells true [])) wd ∧ Ext ι h wd ι ((h.bump 1).set h.nx (.cells true [])) wd := by
 have hn : ι h.nx = none := by
  cases hq : ι h.nx with
  | none => rfl
  | some l => have := (wr.lt _ l hq).1; omega
 have hm1 : ∀ s c, ((h.bump 1).set h.nx (.cells true [])).m s = some c → (s = h.nx ∧ c = .cells true []) ∨ h.m s = some c := fun s c hs => by
  unfold AH.set at hs
  by_cases e : s = h.nx
  ·subst e; simp only [if_true, Option.some.injEq] at hs; exact .inl ⟨rfl, hs.symm⟩
  ·simp only [if_neg e] at hs; exact .inr hs
 refine ⟨hn, ?_, ?_⟩
 ·refine ⟨fun t l hl => ⟨by have := (wr.lt t l hl).1; show t < h.nx + 1; omega, (wr.lt t l hl).2⟩, fun t c hc => ?_, fun t t' l l' c c' h1 h2 h3 h4 h5 h6 => ?_, Nat.succ_pos _, wr.nil, fun b xs hb => ⟨(wr.phi b xs hb).1, fun t c l hc hw hl => ?_⟩⟩
  ·rcases hm1 t c hc with ⟨rfl, rfl⟩ | hc
   ·exact ⟨by show h.nx < h.nx + 1; omega, .inl ⟨rfl, hn⟩⟩
   ·exact ⟨by have := (wr.blk t c hc).1; show t < h.nx + 1; omega, (wr.blk t c hc).2⟩
  ·rcases hm1 t c h1 with ⟨rfl, rfl⟩ | h1
   ·rw [hn] at h3; cases h3
   rcases hm1 t' c' h2 with ⟨rfl, rfl⟩ | h2
   ·rw [hn] at h4; cases h4
   exact wr.inj t t' l l' c c' h1 h2 h3 h4 h5 h6
  ·rcases hm1 t c hc with ⟨rfl, rfl⟩ | hc
   ·rw [hn] at hl; cases hl
   ·exact (wr.phi b xs hb).2 t c l hc hw hl
 ·refine ⟨Nat.le_succ _, fun _ _ => rfl, rfl, rfl, rfl, Nat.le_refl _, fun _ _ _ => rfl, fun t c l hc hw hl => ?_, fun _ _ x => x, fun _ _ x => .inl x, Nat.le_refl _⟩
  rcases hm1 t c hc with ⟨rfl, rfl⟩ | hc
  ·rw [hn] at hl; cases hl
  ·exact .inr ⟨t, c, l, hc, hw, hl, rfl⟩
section
variable {P : Program} {N : Nat} {Q : Exit → St → AH → Prop} {st : St} {h : AH}
theorem w_virtH {c : AC} (k : Nat) {s : Nat} {wb : Bool} {ds : List AV} (hm : h.m s = some (.cells wb ds)) {i : Nat} (hi : ds[i]? = some (.sl 0 0 0 0))
 (w : 0 < h.nx → s < h.nx → W P N c Q st (((h.bump 1).set h.nx (.cells true [])).set s (.cells wb (ds.set i (.sl h.nx 0 0 k))))) : W P N c Q st h := fun c' hc ι a wd ar wr => by
 obtain ⟨hn, wr1, ex1⟩ := virt_world wr
 have ls := (wr.blk s _ hm).1
 have hm1 : ((h.bump 1).set h.nx (.cells true [])).m s = some (.cells wb ds) := by
  unfold AH.set
  simp only [if_neg (show ¬ s = h.nx by omega)]
  exact hm
 obtain ⟨wr2, ex2⟩ := cell_world (ds' := ds.set i (.sl h.nx 0 0 k)) wr1 hm1 (by rw [List.length_set]) fun j x hj => by
  by_cases e : i = j
  ·subst e
   refine ⟨_, hi, fun u hu => ?_⟩
   have l : i < ds.length := by
    refine Classical.byContradiction fun z => ?_
    rw [List.getElem?_eq_none (by omega)] at hi; cases hi
   rw [List.getElem?_set_self l] at hj
   simp only [Option.some.injEq] at hj
   subst hj
   simp only [VRel] at hu ⊢
   rcases hu with ⟨_, x, hx⟩ | ⟨l, cap, hl, _⟩
   ·exact .inl ⟨by trivial, x, hx⟩
   ·rw [wr1.nil] at hl; cases hl
  ·rw [List.getElem?_set_ne e] at hj
   exact ⟨x, hj, fun u hu => hu⟩
 refine wp_mono (w wr.pos ls c' hc ι a wd ar wr2) fun e a' w' l => ?_
 obtain ⟨st'', h'', ι'', q, ar'', wr'', x⟩ := l
 exact ⟨st'', h'', ι'', q, ar'', wr'', (ex1.trans ex2).trans x⟩
theorem w_nest {c : AC} (k : Nat) {n r : Nat} (hm : h.m r = some (.cells true (List.replicate n (.sl 0 0 0 0)))) (r0 : r ≠ 0)
 (w : ∀ h' ts, Nest h' k r ts (List.replicate n (0, [])) → (∀ s b, s ≠ r → h.m s = some b → h'.m s = some b) → h.nx ≤ h'.nx → (∀ t ∈ ts, h.nx ≤ t) → W P N c Q st h') : W P N c Q st h := by
 have key : ∀ d j h1 ts, j + d = n → h1.m r = some (.cells true (rC k ts (List.replicate j (0, [])) ++ List.replicate d (.sl 0 0 0 0))) → ts.length = j → ts.Nodup → (∀ t ∈ ts, t ≠ 0 ∧ t ≠ r ∧ h.nx ≤ t ∧ t < h1.nx ∧ h1.m t = some (.cells true [])) →
  (∀ s b, s ≠ r → h.m s = some b → s < h.nx ∧ h1.m s = some b) → h.nx ≤ h1.nx → W P N c Q st h1 := by
  intro d
  induction d with
  | zero =>
    intro j h1 ts hj hr hl hnd ht F hx
    obtain rfl : j = n := by omega
    refine w h1 ts ⟨fun p hp => ?_, by rw [hl, List.length_replicate], hnd, fun t h => ⟨(ht t h).1, (ht t h).2.1⟩, r0, by simpa using hr, fun i hi => ?_⟩ (fun s b q1 q2 => (F s b q1 q2).2) hx fun t h => (ht t h).2.2.1
    ·rw [List.eq_of_mem_replicate hp]; exact Nat.zero_mul k
    ·rw [List.length_replicate] at hi
     have : i < ts.length := by omega
     have e : tD ts i ∈ ts := by simp [tD, this]
     rw [(ht _ e).2.2.2.2]
     simp [rD, hi]
  | succ d ih =>
    intro j h1 ts hj hr hl hnd ht F hx
    have rl : (rC k ts (List.replicate j (0, ([] : List AV)))).length = j := by rw [rC_len (by rw [hl, List.length_replicate]), List.length_replicate]
    refine w_virtH k hr (i := j) (by rw [List.getElem?_append_right (by omega), rl, Nat.sub_self]; rfl) fun p ls => ?_
    have nr : ¬ h1.nx = r := by omega
    refine ih (j + 1) _ (ts ++ [h1.nx]) (by omega) ?_ (by simp [hl]) ?_ ?_ ?_ ?_
    ·simp only [AH.set, if_true]
     congr 2
     rw [List.set_append_right _ _ (by omega), rl, Nat.sub_self]
     have e : rC k (ts ++ [h1.nx]) (List.replicate (j + 1) (0, [])) = rC k ts (List.replicate j (0, [])) ++ [.sl h1.nx 0 0 k] := by
      rw [rC_snoc (cs := []) (by rw [hl, List.length_replicate]), List.replicate_succ']
     rw [e, List.append_assoc]
     rfl
    ·rw [List.nodup_append]
     refine ⟨hnd, by simp, fun a ha b hb e => ?_⟩
     rw [List.mem_singleton] at hb
     have := (ht a ha).2.2.2.1
     omega
    ·intro t h
     rcases List.mem_append.1 h with h | h
     ·obtain ⟨q1, q2, q3, q4, q5⟩ := ht t h
      refine ⟨q1, q2, q3, by show t < h1.nx + 1; omega, ?_⟩
      simp only [AH.set, if_neg q2, if_neg (show ¬ t = h1.nx by omega)]
      exact q5
     ·rw [List.mem_singleton] at h
      subst h
      refine ⟨by omega, nr, hx, by show h1.nx < h1.nx + 1; omega, ?_⟩
      simp only [AH.set, if_neg nr, if_true]
    ·intro s b q1 q2
     obtain ⟨q3, q4⟩ := F s b q1 q2
     refine ⟨q3, ?_⟩
     simp only [AH.set, if_neg q1, if_neg (show ¬ s = h1.nx by omega)]
     exact q4
    ·show h.nx ≤ h1.nx + 1; omega
 intro c' hc ι a wd ar wr
 exact key n 0 h [] (by omega) (by simpa [rC] using hm) rfl List.nodup_nil (fun t h => by cases h) (fun s b q1 q2 => ⟨(wr.blk s b q2).1, q2⟩) (Nat.le_refl _) c' hc ι a wd ar wr
end
end Go.Am
