/- What the proof of the law needs: the abstract machine, the functions as it reads them, their contracts, part 9. -/
import Derived.Test.YtjaihaccehaicaaDoorZh
import Derived.Test.YtjaihaccehaicaaDoorRows
import Derived.Test.YtjaihaccehaicaaDoorTie
import Derived.LaidLaws
import Derived.Handed
import Derived.ProofKit
set_option linter.unusedVariables false
set_option linter.unusedSimpArgs false
namespace Go.Proofs.YtjaihaccehaicaaDoor
open Go Go.Am Go.Proofs
set_option maxHeartbeats 1000000 in
theorem n68t (t : Nat) (s : Nat) (hs : s < 2 ^ 64) (h : AH) (hm : h.m t = some (cl s)) : ACalls Tryd.prog 68 [.sl 0 0 0 0, .fn 69 [] [.p t 0]] h fun r h' => ∃ x, r = .sl x 0 (bts s).length 1 ∧ x ≠ 0 ∧ h.nx ≤ x ∧ h'.m x = some (.cells true (il (bts s))) ∧ Upd t [.i .u64 0] h h' := by
 refine a_fn0 fn68 (by simp) fun ok pos => ?_
 have lt := ok.m hm
 rw [initSt2]
 refine k0_seq ?_
 repeat' first | (with_reducible first | refine k_seq ?_ | refine k_skip ?_ | refine k_blkS ?_ | refine k_blkR ?_ | refine k_blkC ?_ | refine k_blkH ?_ | refine k_blkB ?_ | refine k_blkK ?_ | refine k_blkE ?_ | refine k_reg ?_) | with_reducible refine r_done ?_ | with_reducible refine s_go (by simp (disch := omega) only [RG68, EVA, plug, eq_self, simprocAttr]; with_reducible rfl) ?_ | ((with_reducible refine chk_r ?_); refine r_callF (by simp only [CA, simprocAttr]; rfl) (by exact rfl) (by simp only [CA, simprocAttr]; rfl) rfl ?_) | (with_reducible refine k_condP (by simp only [GA, simprocAttr]; rfl) (by first | (simp only [BO]; rfl) | rfl) (fun ht => ?_) (fun ht => ?_) <;> try (first | exact False.elim ht | exact absurd rfl ht | exact absurd trivial ht | exact Bool.noConfusion ht)) | (with_reducible refine k_ret ?_; repeat with_reducible (first | refine ret_thru ?_ | refine ret_blk ?_ | refine fin ?_)) | (with_reducible refine k_exit ?_; repeat with_reducible (first | refine thru ?_ | refine out_blk ?_ | refine pass (by decide) ?_)) | ((first | refine post1 ?_ | refine post2 ?_ | refine post3 ?_); simp only [GA, simprocAttr]) | refine post0 ?_
 refine k0_seq0 (k0_seq ?_)
 refine w_virtH 1 (s := h.nx) (ds := [.sl 0 0 0 0]) (i := 0) (by simp (disch := omega) only [RG68, EVA, plug, eq_self, simprocAttr] <;> rfl) rfl fun pos1 lt1 => ?_
 repeat' first | (with_reducible first | refine k_seq ?_ | refine k_skip ?_ | refine k_blkS ?_ | refine k_blkR ?_ | refine k_blkC ?_ | refine k_blkH ?_ | refine k_blkB ?_ | refine k_blkK ?_ | refine k_blkE ?_ | refine k_reg ?_) | with_reducible refine r_done ?_ | with_reducible refine s_go (by simp (disch := omega) only [RG68, EVA, plug, eq_self, simprocAttr]; with_reducible rfl) ?_ | ((with_reducible refine chk_r ?_); refine r_callF (by simp only [CA, simprocAttr]; rfl) (by exact rfl) (by simp only [CA, simprocAttr]; rfl) rfl ?_) | (with_reducible refine k_condP (by simp only [GA, simprocAttr]; rfl) (by first | (simp only [BO]; rfl) | rfl) (fun ht => ?_) (fun ht => ?_) <;> try (first | exact False.elim ht | exact absurd rfl ht | exact absurd trivial ht | exact Bool.noConfusion ht)) | (with_reducible refine k_ret ?_; repeat with_reducible (first | refine ret_thru ?_ | refine ret_blk ?_ | refine fin ?_)) | (with_reducible refine k_exit ?_; repeat with_reducible (first | refine thru ?_ | refine out_blk ?_ | refine pass (by decide) ?_)) | ((first | refine post1 ?_ | refine post2 ?_ | refine post3 ?_); simp only [GA, simprocAttr]) | refine post0 ?_
 refine k0_blk (w0_rf rfl fun ok2 pos2 => ?_)
 simp only [List.nil_append, List.cons_append]
 refine i_fn fn69 rfl (by simp) fun ok3 pos3 => ?_
 rw [initSt2]
 have a1 : ¬ t = h.nx := by omega
 have a2 : ¬ t = h.nx + 2 := by omega
 have a3 : ¬ t = h.nx + 2 + 1 := by omega
 have a4 : ¬ t = h.nx + 2 + 1 + 1 := by omega
 refine k_blk (k_loopW (X := Nat × Nat × List Int) [0, 1] (fun x => [(0, .fy (h.nx + 2 + 1 + 1)), (1, .p t 0)]) (fun x => x.2.1)
  (fun x h' => App (.fn 69 [] [.p t 0]) (h.nx + 2 + 1 + 1) h.nx x.1 x.2.2 h' ∧ h'.m t = some (cl x.2.1) ∧ x.2.1 < 2 ^ 64 ∧ x.2.2 ++ bts x.2.1 = bts s ∧ (∀ u, u < h.nx → u ≠ t → h'.m u = h.m u) ∧ h.nx + 2 + 1 + 1 < h'.nx ∧ (h.nx ≤ x.1)) (h.nx + 2, s, [])
  (by simp only [Am.keep, List.map_cons, List.map_nil, GA, simprocAttr]; try rfl) ⟨⟨by simp (disch := omega) only [c69r0, c69r1, c69r2, EVA, plug, eq_self, simprocAttr] <;> rfl, by simp (disch := omega) only [c69r0, c69r1, c69r2, EVA, plug, eq_self, simprocAttr] <;> rfl, by simp (disch := omega) only [c69r0, c69r1, c69r2, EVA, plug, eq_self, simprocAttr] <;> rfl, by omega, by omega, by omega, by omega⟩, by simp (disch := omega) only [hm, a1, a2, a3, a4, c69r0, c69r1, c69r2, EVA, plug, eq_self, simprocAttr], hs, rfl, fun u hu hn => ?_, by simp (disch := omega) only [c69r0, c69r1, c69r2, EVA, plug, eq_self, simprocAttr] <;> omega, by omega⟩ ?_)
 ·have b1 : ¬ u = h.nx := by omega
  have b2 : ¬ u = h.nx + 2 := by omega
  have b3 : ¬ u = h.nx + 2 + 1 := by omega
  have b4 : ¬ u = h.nx + 2 + 1 + 1 := by omega
  simp (disch := omega) only [b1, b2, b3, b4, c69r0, c69r1, c69r2, EVA, plug, eq_self, simprocAttr]
 rintro ⟨x, y, xs⟩ h2 ⟨A, hy, y64, hb, hk, hn, hx⟩ ok4 pos4
 simp only at A hy y64 hb hk hn hx ⊢
 have ll := bts_len s
 rw [← hb, List.length_append] at ll
 have lx := ok4.m A.c
 by_cases y0 : y = 0
 ·subst y0
  rw [bts_zero, List.append_nil] at hb
  subst hb
  repeat' first | (with_reducible first | refine k_seq ?_ | refine k_skip ?_ | refine k_blkS ?_ | refine k_blkR ?_ | refine k_blkC ?_ | refine k_blkH ?_ | refine k_blkB ?_ | refine k_blkK ?_ | refine k_blkE ?_ | refine k_reg ?_) | with_reducible refine r_done ?_ | with_reducible refine s_go (by simp (disch := omega) only [hy, row_m hy, read_row (row_m hy), c69r0, c69r1, c69r2, EVA, plug, eq_self, simprocAttr]; with_reducible rfl) ?_ | ((with_reducible refine chk_r ?_); refine r_callF (by simp only [CA, simprocAttr]; rfl) (by exact rfl) (by simp only [CA, simprocAttr]; rfl) rfl ?_) | (with_reducible refine k_condP (by simp only [GA, simprocAttr]; rfl) (by first | (simp only [BO]; rfl) | rfl) (fun ht => ?_) (fun ht => ?_) <;> try (first | exact False.elim ht | exact absurd rfl ht | exact absurd trivial ht | exact Bool.noConfusion ht)) | (with_reducible refine k_ret ?_; repeat with_reducible (first | refine ret_thru ?_ | refine ret_blk ?_ | refine fin ?_)) | (with_reducible refine k_exit ?_; repeat with_reducible (first | refine thru ?_ | refine out_blk ?_ | refine pass (by decide) ?_)) | ((first | refine post1 ?_ | refine post2 ?_ | refine post3 ?_); simp only [GA, simprocAttr]) | refine post0 ?_
  refine ⟨A.r, end68 ⟨A.r, A.b, A.c, A.x0, A.t1, A.t2, A.t3⟩ fun h3 e3 n3 => ?_⟩
  have kn : ∀ u, u ≠ h.nx + 2 + 1 + 1 → h3.m u = h2.m u := fun u hu => by
   rw [e3 u]
   simp (disch := omega) only [hu, c69r0, c69r1, c69r2, EVA, plug, eq_self, simprocAttr]
  refine ⟨x, rfl, A.x0, hx, by rw [kn x (fun q => A.t2 q.symm)]; exact A.c, by rw [kn t (by omega)]; exact hy, fun u h1 h2' => ?_, ?_⟩
  ·rw [kn u (by omega)]
   exact hk u h1 h2'
  ·simp only [AH.bump_nx] at n3; omega
 ·have z := eq_false (show ¬ (y : Int) = 0 by omega)
  have st := bts_step (s := y) (by omega) y64
  rw [st] at hb
  have q70 := d70 y (by omega) y64
  have lt2 := ok4.m hy
  have w1 : IntKind.u64.wrap ((y : Int) - 1) = ((y - 1 : Nat) : Int) := by rw [wrapU]; omega
  have w2 := and_64 y64 (show y - 1 < 2 ^ 64 by omega)
  have w3 := clr_lt (s := y) (by omega)
  generalize tzA 64 y = k at *
  obtain ⟨y', ey⟩ : ∃ y', y' = y &&& (y - 1) := ⟨_, rfl⟩
  rw [← ey] at hb w2 w3
  repeat' first | with_reducible refine k_seq ?_ | with_reducible refine k_skip ?_ | with_reducible refine k_blkS ?_ | with_reducible refine k_blkR ?_ | with_reducible refine k_blkC ?_ | with_reducible refine k_blkH ?_ | with_reducible refine k_blkB ?_ | with_reducible refine k_blkK ?_ | with_reducible refine k_blkE ?_ | (fail_if_success (with_reducible refine k_reg (ops := c69r1) ?_)); with_reducible refine k_reg ?_ | with_reducible refine r_done ?_ | with_reducible refine s_go (by simp (disch := omega) only [hy, row_m hy, read_row (row_m hy), z, c69r0, c69r1, c69r2, EVA, plug, eq_self, simprocAttr]; with_reducible rfl) ?_ | ((with_reducible refine chk_r ?_); refine r_callF (by simp only [CA, simprocAttr]; rfl) (by exact rfl) (by simp only [CA, simprocAttr]; rfl) rfl ?_) | (with_reducible refine k_condP (by simp only [GA, simprocAttr]; rfl) (by first | (simp only [BO]; rfl) | rfl) (fun ht => ?_) (fun ht => ?_) <;> try (first | exact False.elim ht | exact absurd rfl ht | exact absurd trivial ht | exact Bool.noConfusion ht)) | (with_reducible refine k_ret ?_; repeat with_reducible (first | refine ret_thru ?_ | refine ret_blk ?_ | refine fin ?_)) | (with_reducible refine k_exit ?_; repeat with_reducible (first | refine thru ?_ | refine out_blk ?_ | refine pass (by decide) ?_)) | ((first | refine post1 ?_ | refine post2 ?_ | refine post3 ?_); simp only [GA, simprocAttr]) | refine post0 ?_
  refine k_yld 3 rfl ?_
  repeat' first | (with_reducible first | refine k_seq ?_ | refine k_skip ?_ | refine k_blkS ?_ | refine k_blkR ?_ | refine k_blkC ?_ | refine k_blkH ?_ | refine k_blkB ?_ | refine k_blkK ?_ | refine k_blkE ?_ | refine k_reg ?_) | with_reducible refine r_done ?_ | with_reducible refine s_go (by simp (disch := omega) only [hy, row_m hy, read_row (row_m hy), List.take_succ_cons, List.take_zero, c69r0, c69r1, c69r2, EVA, plug, eq_self, simprocAttr]; with_reducible rfl) ?_ | ((with_reducible refine chk_r ?_); refine r_callF (by simp only [CA, simprocAttr]; rfl) (by exact rfl) (by simp only [CA, simprocAttr]; rfl) rfl ?_) | ((with_reducible refine chk_r ?_); refine r_callP (by simp only [CA, simprocAttr]; rfl) (by simp only [CA, simprocAttr]; rfl) (by first | exact q70 _) rfl ?_) | (with_reducible refine k_condP (by simp only [GA, simprocAttr]; rfl) (by first | (simp only [BO]; rfl) | rfl) (fun ht => ?_) (fun ht => ?_) <;> try (first | exact False.elim ht | exact absurd rfl ht | exact absurd trivial ht | exact Bool.noConfusion ht)) | (with_reducible refine k_ret ?_; repeat with_reducible (first | refine ret_thru ?_ | refine ret_blk ?_ | refine fin ?_)) | (with_reducible refine k_exit ?_; repeat with_reducible (first | refine thru ?_ | refine out_blk ?_ | refine pass (by decide) ?_)) | ((first | refine post1 ?_ | refine post2 ?_ | refine post3 ?_); simp only [GA, simprocAttr]) | refine post0 ?_
  refine ⟨_, rfl, ?_⟩
  refine round81 (x := x) (xs := xs) (v := (k : Int)) (fun t b hb => by have := ok4 t b hb; simp only [AH.bump_nx]; omega) ⟨A.r, A.b, A.c, A.x0, A.t1, A.t2, A.t3⟩ (by omega) fun x' h' hx' A' kp nx => ?_
  simp only [AH.bump_nx] at hx' nx
  have hy' : h'.m t = some (cl y) := by
   rw [kp t (by simp only [AH.bump_nx]; omega) (by omega) (by omega)]
   exact hy
  have lt3 : t < h.nx := lt
  repeat' first | (with_reducible first | refine k_seq ?_ | refine k_skip ?_ | refine k_blkS ?_ | refine k_blkR ?_ | refine k_blkC ?_ | refine k_blkH ?_ | refine k_blkB ?_ | refine k_blkK ?_ | refine k_blkE ?_ | refine k_reg ?_) | with_reducible refine r_done ?_ | with_reducible refine s_go (by simp (disch := omega) only [List.drop_succ_cons, List.drop_zero, hy', row_m hy', read_row (row_m hy'), w1, w2, c69r0, c69r1, c69r2, EVA, plug, eq_self, simprocAttr]; with_reducible rfl) ?_ | ((with_reducible refine chk_r ?_); refine r_callF (by simp only [CA, simprocAttr]; rfl) (by exact rfl) (by simp only [CA, simprocAttr]; rfl) rfl ?_) | (with_reducible refine k_condP (by simp only [GA, simprocAttr]; rfl) (by first | (simp only [BO]; rfl) | rfl) (fun ht => ?_) (fun ht => ?_) <;> try (first | exact False.elim ht | exact absurd rfl ht | exact absurd trivial ht | exact Bool.noConfusion ht)) | (with_reducible refine k_ret ?_; repeat with_reducible (first | refine ret_thru ?_ | refine ret_blk ?_ | refine fin ?_)) | (with_reducible refine k_exit ?_; repeat with_reducible (first | refine thru ?_ | refine out_blk ?_ | refine pass (by decide) ?_)) | ((first | refine post1 ?_ | refine post2 ?_ | refine post3 ?_); simp only [GA, simprocAttr]) | refine post0 ?_
  have e1 : ¬ h.nx + 2 + 1 + 1 = t := by omega
  have e2 : ¬ h.nx = t := by omega
  have e3 : ¬ x' = t := by omega
  refine ⟨(x', y', xs ++ [(k : Int)]), w3, (by simp only [Am.keep, List.map_cons, List.map_nil, GA, simprocAttr]; try rfl), ⟨by simp (disch := omega) only [e1, A'.r, c69r0, c69r1, c69r2, EVA, plug, eq_self, simprocAttr], by simp (disch := omega) only [e2, A'.b, c69r0, c69r1, c69r2, EVA, plug, eq_self, simprocAttr], by simp (disch := omega) only [e3, A'.c, c69r0, c69r1, c69r2, EVA, plug, eq_self, simprocAttr], A'.x0, A'.t1, A'.t2, A'.t3⟩, by simp (disch := omega) only [c69r0, c69r1, c69r2, EVA, plug, eq_self, simprocAttr] <;> rfl, by show y' < 2 ^ 64; omega, ?_, fun u h1 h2' => ?_, by simp (disch := omega) only [c69r0, c69r1, c69r2, EVA, plug, eq_self, simprocAttr] <;> omega, by show h.nx ≤ x'; omega⟩
  ·rw [List.append_assoc]; exact hb
  ·have := kp u (by simp only [AH.bump_nx]; omega) (by omega) (by omega)
   simp (disch := omega) only [h2', this, hk u h1 h2', c69r0, c69r1, c69r2, EVA, plug, eq_self, simprocAttr]
theorem n42t (t : Nat) (s : Nat) (hs : s < 2 ^ 64) (h : AH) (hm : h.m t = some (cl s)) : ACalls Tryd.prog 42 [.fn 69 [] [.p t 0]] h fun r h' => ∃ x, r = .sl x 0 (bts s).length 1 ∧ x ≠ 0 ∧ h.nx ≤ x ∧ h'.m x = some (.cells true (il (bts s))) ∧ Upd t [.i .u64 0] h h' := by
 refine a_fn fn42 (by simp) fun ok pos => ?_
 have lt := ok.m hm
 rw [initSt1]
 repeat' first | (with_reducible first | refine k_seq ?_ | refine k_skip ?_ | refine k_blkS ?_ | refine k_blkR ?_ | refine k_blkC ?_ | refine k_blkH ?_ | refine k_blkB ?_ | refine k_blkK ?_ | refine k_blkE ?_ | refine k_reg ?_) | with_reducible refine r_done ?_ | with_reducible refine s_go (by simp (disch := omega) only [c42r0, c42r1, EVA, plug, eq_self, simprocAttr]; with_reducible rfl) ?_ | ((with_reducible refine chk_r ?_); refine r_callF (by simp only [CA, simprocAttr]; rfl) (by exact rfl) (by simp only [CA, simprocAttr]; rfl) rfl ?_) | ((with_reducible refine chk_r ?_); refine r_callX (by simp only [CA, simprocAttr]; rfl) (by simp only [CA, simprocAttr]; rfl) (by first | exact n68t t s hs _ (by simp (disch := omega) only [hm, c42r0, c42r1, EVA, plug, eq_self, simprocAttr])) rfl ?_) | (with_reducible refine k_condP (by simp only [GA, simprocAttr]; rfl) (by first | (simp only [BO]; rfl) | rfl) (fun ht => ?_) (fun ht => ?_) <;> try (first | exact False.elim ht | exact absurd rfl ht | exact absurd trivial ht | exact Bool.noConfusion ht)) | (with_reducible refine k_ret ?_; repeat with_reducible (first | refine ret_thru ?_ | refine ret_blk ?_ | refine fin ?_)) | (with_reducible refine k_exit ?_; repeat with_reducible (first | refine thru ?_ | refine out_blk ?_ | refine pass (by decide) ?_)) | ((first | refine post1 ?_ | refine post2 ?_ | refine post3 ?_); simp only [GA, simprocAttr]) | refine post0 ?_
 rintro r h2 ⟨x, rfl, x0, x1, x2, U⟩
 simp only [AH.bump_nx] at x1
 have Un := U.nx
 simp only [AH.bump_nx] at Un
 repeat' first | (with_reducible first | refine k_seq ?_ | refine k_skip ?_ | refine k_blkS ?_ | refine k_blkR ?_ | refine k_blkC ?_ | refine k_blkH ?_ | refine k_blkB ?_ | refine k_blkK ?_ | refine k_blkE ?_ | refine k_reg ?_) | with_reducible refine r_done ?_ | with_reducible refine s_go (by simp (disch := omega) only [c42r0, c42r1, EVA, plug, eq_self, simprocAttr]; with_reducible rfl) ?_ | ((with_reducible refine chk_r ?_); refine r_callF (by simp only [CA, simprocAttr]; rfl) (by exact rfl) (by simp only [CA, simprocAttr]; rfl) rfl ?_) | (with_reducible refine k_condP (by simp only [GA, simprocAttr]; rfl) (by first | (simp only [BO]; rfl) | rfl) (fun ht => ?_) (fun ht => ?_) <;> try (first | exact False.elim ht | exact absurd rfl ht | exact absurd trivial ht | exact Bool.noConfusion ht)) | (with_reducible refine k_ret ?_; repeat with_reducible (first | refine ret_thru ?_ | refine ret_blk ?_ | refine fin ?_)) | (with_reducible refine k_exit ?_; repeat with_reducible (first | refine thru ?_ | refine out_blk ?_ | refine pass (by decide) ?_)) | ((first | refine post1 ?_ | refine post2 ?_ | refine post3 ?_); simp only [GA, simprocAttr]) | refine post0 ?_
 refine ⟨x, rfl, x0, by omega, by simp (disch := omega) only [x2, c42r0, c42r1, EVA, plug, eq_self, simprocAttr], by simp (disch := omega) only [U.m, c42r0, c42r1, EVA, plug, eq_self, simprocAttr], fun u h1 h2' => ?_, by first | omega | (simp only [AH.bump_nx]; omega)⟩
 have := U.keep u (by simp only [AH.bump_nx]; omega) h2'
 simp (disch := omega) only [this, c42r0, c42r1, EVA, plug, eq_self, simprocAttr]
set_option maxHeartbeats 2000000 in
theorem a18 (l : List Sz) (m : List Hd) (hl : l.length ≤ 9223372036854775807) (hm : m.length ≤ 9223372036854775807) {R : AV → AH → Prop} (hA : ∀ x h2, h2.m x = some (.cells true (il (cvrR l m).1)) → R (.tu [.sl x 0 (cvrR l m).1.length 1, .i .i64 (cvrR l m).2]) h2) (hB : (cvrR l m).1 = [] → ∀ h2, R (.tu [.sl 0 0 0 0, .i .i64 (cvrR l m).2]) h2) (h0 : AH) : ACalls Tryd.prog 18 [vZ l, vH m] h0 R := by
 refine a_fn fn18 (by simp) fun ok pos => ?_
 have q1 := pc41 l m hl hm
 unfold cvrR at hA hB
 rw [initSt2]
 by_cases c : chk l m = 0
 ·rw [if_neg (by simp [c])] at hA hB
  rw [c] at q1
  by_cases c12 : 12 < l.length
  ·rw [if_pos c12] at hA hB
   have c12' := eq_true (show (12 : Int) < l.length by omega)
   repeat' first | (with_reducible first | refine k_seq ?_ | refine k_skip ?_ | refine k_blkS ?_ | refine k_blkR ?_ | refine k_blkC ?_ | refine k_blkH ?_ | refine k_blkB ?_ | refine k_blkK ?_ | refine k_blkE ?_ | refine k_reg ?_) | with_reducible refine r_done ?_ | with_reducible refine s_go (by simp (disch := omega) only [c12', RG18, EVA, plug, eq_self, simprocAttr]; with_reducible rfl) ?_ | ((with_reducible refine chk_r ?_); refine r_callF (by simp only [CA, simprocAttr]; rfl) (by exact rfl) (by simp only [CA, simprocAttr]; rfl) rfl ?_) | ((with_reducible refine chk_r ?_); refine r_callP (by simp only [CA, simprocAttr]; rfl) (by simp only [CA, simprocAttr]; rfl) (by first | exact q1 _) rfl ?_) | ((with_reducible refine chk_r ?_); refine r_callG (by simp only [CA, simprocAttr]; rfl) (by simp only [CA, simprocAttr]; rfl) (by simp only [CA, simprocAttr]; rfl) (by intro hg; (try simp only [BO] at hg); first | exact q1 _) rfl ?_) | (with_reducible refine k_condP (by simp only [GA, simprocAttr]; rfl) (by first | (simp only [BO]; rfl) | rfl) (fun ht => ?_) (fun ht => ?_) <;> try (first | exact False.elim ht | exact absurd rfl ht | exact absurd trivial ht | exact Bool.noConfusion ht)) | (with_reducible refine k_ret ?_; repeat with_reducible (first | refine ret_thru ?_ | refine ret_blk ?_ | refine fin ?_)) | (with_reducible refine k_exit ?_; repeat with_reducible (first | refine thru ?_ | refine out_blk ?_ | refine pass (by decide) ?_)) | ((first | refine post1 ?_ | refine post2 ?_ | refine post3 ?_); simp only [GA, simprocAttr]) | refine post0 ?_
   exact hB rfl _
  ·rw [if_neg c12] at hA hB
   have c12' := eq_false (show ¬ (12 : Int) < l.length by omega)
   have q3 := pc48 l m (chk_ok c).1 (chk_ok c).2
   have M := (hdsOk_iff.1 (chk_ok c).2).1
   have sh1 := shl_64 (k := m.length) (by omega)
   have p1 : 0 < 2 ^ m.length := Nat.two_pow_pos _
   have p2 : 2 ^ m.length ≤ 2 ^ 40 := Nat.pow_le_pow_right (by omega) M
   have w1 : IntKind.u64.wrap (((2 ^ m.length : Nat) : Int) - 1) = ((2 ^ m.length - 1 : Nat) : Int) := by rw [wrapU]; omega
   have p3 : 2 ^ l.length ≤ 2 ^ 12 := Nat.pow_le_pow_right (by omega) (by omega)
   have sh2 : IntKind.i64.wrap (1 * 2 ^ (min l.length IntKind.i64.bits)) = ((2 ^ l.length : Nat) : Int) := by
    have e : min l.length IntKind.i64.bits = l.length := Nat.min_eq_left (by show l.length ≤ 64; omega)
    rw [e, Int.one_mul]
    have w : ∀ N : Nat, N ≤ 4096 → IntKind.i64.wrap (N : Int) = N := fun N h => wrap64 (by omega) (by omega)
    have := w _ (show 2 ^ l.length ≤ 4096 from p3)
    rw [Int.natCast_pow] at this ⊢
    exact this
   have WE := fun {li : List Int} (hp : pkOk li l.length = true) => whole_eq (m := m) hp
   repeat' first | (with_reducible first | refine k_seq ?_ | refine k_skip ?_ | refine k_blkS ?_ | refine k_blkR ?_ | refine k_blkC ?_ | refine k_blkH ?_ | refine k_blkB ?_ | refine k_blkK ?_ | refine k_blkE ?_ | refine k_reg ?_) | with_reducible refine r_done ?_ | with_reducible refine s_go (by simp (disch := omega) only [c12', sh1, w1, sh2, RG18, EVA, plug, eq_self, simprocAttr]; with_reducible rfl) ?_ | ((with_reducible refine chk_r ?_); refine r_callF (by simp only [CA, simprocAttr]; rfl) (by exact rfl) (by simp only [CA, simprocAttr]; rfl) rfl ?_) | ((with_reducible refine chk_r ?_); refine r_callP (by simp only [CA, simprocAttr]; rfl) (by simp only [CA, simprocAttr]; rfl) (by first | exact q1 _ | exact q3 _) rfl ?_) | ((with_reducible refine chk_r ?_); refine r_callG (by simp only [CA, simprocAttr]; rfl) (by simp only [CA, simprocAttr]; rfl) (by simp only [CA, simprocAttr]; rfl) (by intro hg; (try simp only [BO] at hg); first | exact q1 _ | exact q3 _) rfl ?_) | (with_reducible refine k_condP (by simp only [GA, simprocAttr]; rfl) (by first | (simp only [BO]; rfl) | rfl) (fun ht => ?_) (fun ht => ?_) <;> try (first | exact False.elim ht | exact absurd rfl ht | exact absurd trivial ht | exact Bool.noConfusion ht)) | (with_reducible refine k_ret ?_; repeat with_reducible (first | refine ret_thru ?_ | refine ret_blk ?_ | refine fin ?_)) | (with_reducible refine k_exit ?_; repeat with_reducible (first | refine thru ?_ | refine out_blk ?_ | refine pass (by decide) ?_)) | ((first | refine post1 ?_ | refine post2 ?_ | refine post3 ?_); simp only [GA, simprocAttr]) | refine post0 ?_
   refine w_virt 1 9 rfl ?_
   generalize hW : 2 ^ m.length - 1 = wh at *
   refine k_blk (k_loopS (X := Nat) [7, 8, 9, 10, 34, 35] (2 ^ l.length) (fun k y => [(7, .vs l.length (nu (fitL l m))), (8, .i .u64 (wh : Int)), (9, .sl y 0 (cvN (cvsB l m) k).2.length 1), (10, .b (cvN (cvsB l m) k).1), (34, .i .i64 ((2 ^ l.length : Nat) : Int)), (35, .i .i64 (k : Int))]) (fun k y h => y ≠ 0 ∧ h.m y = some (.cells true (il (cvN (cvsB l m) k).2))) _ (by simp only [Am.keep, List.map_cons, List.map_nil, GA, simprocAttr]; try rfl) ⟨?_, by simp (disch := omega) only [RG18, EVA, plug, eq_self, simprocAttr] <;> rfl⟩ ?_)
   ·simp only [AH.bump_nx]; omega
   rintro k y h hk ⟨hy, hmy⟩ ok pos
   have ly := ok.m hmy
   by_cases klt : k < 2 ^ l.length
   ·have klt' : (k : Int) < ((2 ^ l.length : Nat) : Int) := by omega
    have cv : IntKind.u64.wrap (k : Int) = k := wrapN (by omega)
    have s64 : k < 2 ^ 64 := by omega
    have la := asc_bts k
    have lb := bts_in klt
    have ll := bts_len k
    have bl := cvN_len (cvsB l m) k
    have eT : cvsB l m (bts k) = true → ((cvN (cvsB l m) k).1 = false ∨ bet (bts k) (cvN (cvsB l m) k).2) → cvN (cvsB l m) (k + 1) = (true, bts k) := fun h1 h2 => if_pos ⟨h1, h2⟩
    have eF : (cvsB l m (bts k) = true → ¬ ((cvN (cvsB l m) k).1 = false ∨ bet (bts k) (cvN (cvsB l m) k).2)) → cvN (cvsB l m) (k + 1) = cvN (cvsB l m) k := fun h => if_neg fun q => h q.1 q.2
    have eB : ∀ a b : List Int, bet a b ↔ a.length < b.length ∨ a.length = b.length ∧ cmpL a b < 0 := fun a b => Iff.rfl
    rw [eB] at eT eF
    repeat' first | (with_reducible first | refine k_seq ?_ | refine k_skip ?_ | refine k_blkS ?_ | refine k_blkR ?_ | refine k_blkC ?_ | refine k_blkH ?_ | refine k_blkB ?_ | refine k_blkK ?_ | refine k_blkE ?_ | refine k_reg ?_) | with_reducible refine r_done ?_ | with_reducible refine s_go (by simp (disch := omega) only [klt', cv, RG18, EVA, plug, eq_self, simprocAttr]; with_reducible rfl) ?_ | ((with_reducible refine chk_r ?_); refine r_callF (by simp only [CA, simprocAttr]; rfl) (by exact rfl) (by simp only [CA, simprocAttr]; rfl) rfl ?_) | ((with_reducible refine chk_r ?_); refine r_callX (by simp only [CA, simprocAttr]; rfl) (by simp only [CA, simprocAttr]; rfl) (by first | exact a43 _ _) rfl ?_) | ((with_reducible refine chk_r ?_); refine r_callTX (by first | (simp only [CA, simprocAttr]; rfl) | simp only [CA, simprocAttr]) (by simp only [CA, simprocAttr]; rfl) (by simp only [CA, simprocAttr]; rfl) (by first | exact a43 _ _) rfl ?_) | (with_reducible refine k_condP (by simp only [GA, simprocAttr]; rfl) (by first | (simp only [BO]; rfl) | rfl) (fun ht => ?_) (fun ht => ?_) <;> try (first | exact False.elim ht | exact absurd rfl ht | exact absurd trivial ht | exact Bool.noConfusion ht)) | (with_reducible refine k_ret ?_; repeat with_reducible (first | refine ret_thru ?_ | refine ret_blk ?_ | refine fin ?_)) | (with_reducible refine k_exit ?_; repeat with_reducible (first | refine thru ?_ | refine out_blk ?_ | refine pass (by decide) ?_)) | ((first | refine post1 ?_ | refine post2 ?_ | refine post3 ?_); simp only [GA, simprocAttr]) | refine post0 ?_
    rintro r h2 ⟨t, rfl, t1, t2, t3, t4⟩
    simp only [AH.bump_nx] at t1 t3 t4
    repeat' first | (with_reducible first | refine k_seq ?_ | refine k_skip ?_ | refine k_blkS ?_ | refine k_blkR ?_ | refine k_blkC ?_ | refine k_blkH ?_ | refine k_blkB ?_ | refine k_blkK ?_ | refine k_blkE ?_ | refine k_reg ?_) | with_reducible refine r_done ?_ | with_reducible refine s_go (by simp (disch := omega) only [RG18, EVA, plug, eq_self, simprocAttr]; with_reducible rfl) ?_ | ((with_reducible refine chk_r ?_); refine r_callF (by simp only [CA, simprocAttr]; rfl) (by exact rfl) (by simp only [CA, simprocAttr]; rfl) rfl ?_) | ((with_reducible refine chk_r ?_); refine r_callX (by simp only [CA, simprocAttr]; rfl) (by simp only [CA, simprocAttr]; rfl) (by first | exact n42t t k s64 _ (by simp (disch := omega) only [t2, RG18, EVA, plug, eq_self, simprocAttr])) rfl ?_) | ((with_reducible refine chk_r ?_); refine r_callTX (by first | (simp only [CA, simprocAttr]; rfl) | simp only [CA, simprocAttr]) (by simp only [CA, simprocAttr]; rfl) (by simp only [CA, simprocAttr]; rfl) (by first | exact n42t t k s64 _ (by simp (disch := omega) only [t2, RG18, EVA, plug, eq_self, simprocAttr])) rfl ?_) | (with_reducible refine k_condP (by simp only [GA, simprocAttr]; rfl) (by first | (simp only [BO]; rfl) | rfl) (fun ht => ?_) (fun ht => ?_) <;> try (first | exact False.elim ht | exact absurd rfl ht | exact absurd trivial ht | exact Bool.noConfusion ht)) | (with_reducible refine k_ret ?_; repeat with_reducible (first | refine ret_thru ?_ | refine ret_blk ?_ | refine fin ?_)) | (with_reducible refine k_exit ?_; repeat with_reducible (first | refine thru ?_ | refine out_blk ?_ | refine pass (by decide) ?_)) | ((first | refine post1 ?_ | refine post2 ?_ | refine post3 ?_); simp only [GA, simprocAttr]) | refine post0 ?_
    rintro r h3 ⟨x, rfl, x0, x1, x2, U⟩
    have hy3 : h3.m y = some (.cells true (il (cvN (cvsB l m) k).2)) := by
     rw [U.keep y (by omega) (by omega), t3 y (by omega)]
     exact hmy
    have xy : x ≠ y := by omega
    have hp := pk_of_asc la lb
    have P := pkOk_iff.1 hp
    have we := WE hp
    generalize bts k = li at *
    have pr : cvN (cvsB l m) k = ((cvN (cvsB l m) k).1, (cvN (cvsB l m) k).2) := rfl
    generalize hF : (cvN (cvsB l m) k).1 = F at *
    generalize hB : (cvN (cvsB l m) k).2 = B at *
    repeat' first | (with_reducible first | refine k_seq ?_ | refine k_skip ?_ | refine k_blkS ?_ | refine k_blkR ?_ | refine k_blkC ?_ | refine k_blkH ?_ | refine k_blkB ?_ | refine k_blkK ?_ | refine k_blkE ?_ | refine k_reg ?_) | with_reducible refine r_done ?_ | with_reducible refine s_go (by simp (disch := omega) only [RG18, EVA, plug, eq_self, simprocAttr]; with_reducible rfl) ?_ | ((with_reducible refine chk_r ?_); refine r_callF (by simp only [CA, simprocAttr]; rfl) (by exact rfl) (by simp only [CA, simprocAttr]; rfl) rfl ?_) | (with_reducible refine k_condP (by simp only [GA, simprocAttr]; rfl) (by first | (simp only [BO]; rfl) | rfl) (fun ht => ?_) (fun ht => ?_) <;> try (first | exact False.elim ht | exact absurd rfl ht | exact absurd trivial ht | exact Bool.noConfusion ht)) | (with_reducible refine k_ret ?_; repeat with_reducible (first | refine ret_thru ?_ | refine ret_blk ?_ | refine fin ?_)) | (with_reducible refine k_exit ?_; repeat with_reducible (first | refine thru ?_ | refine out_blk ?_ | refine pass (by decide) ?_)) | ((first | refine post1 ?_ | refine post2 ?_ | refine post3 ?_); simp only [GA, simprocAttr]) | refine post0 ?_
    refine k_blk (k_loopS (X := Unit) [7, 8, 9, 10, 12, 13, 34, 35, 42, 43, 44] li.length (fun j _ => [(7, .vs l.length (nu (fitL l m))), (8, .i .u64 (wh : Int)), (9, .sl y 0 B.length 1), (10, .b F), (12, .i .u64 ((orS (fitL l m) li j : Nat) : Int)), (13, .sl x 0 li.length 1), (34, .i .i64 ((2 ^ l.length : Nat) : Int)), (35, .i .i64 (k : Int)), (42, .sl x 0 li.length 1), (43, .i .i64 li.length), (44, .i .i64 (j : Int))]) (fun j _ h => h.m y = some (.cells true (il B)) ∧ h.m x = some (.cells true (il li))) () (by simp only [Am.keep, List.map_cons, List.map_nil, GA, simprocAttr]; try rfl) ⟨by simp (disch := omega) only [hy3, RG18, EVA, plug, eq_self, simprocAttr], by simp (disch := omega) only [x2, RG18, EVA, plug, eq_self, simprocAttr]⟩ ?_)
    rintro j _ h' hj ⟨hy4, x4⟩ ok' pos'
    have lk := lt_64 (orS_lt (m := m) hp hj) M
    by_cases jlt : j < li.length
    ·have jlt' : (j : Int) < li.length := by omega
     have g : (il li)[j]? = some (.i .i64 (lN li j)) := il_get jlt
     have pk := (P j jlt).1
     obtain ⟨a, ha⟩ : ∃ a : Nat, lN li j = (a : Int) := ⟨(lN li j).toNat, by omega⟩
     have e1 : orS (fitL l m) li (j + 1) = orS (fitL l m) li j ||| fitS m (zD l a) := by
      rw [orS, ha, Int.toNat_natCast, fitL_get (by omega)]
     rw [ha] at g pk
     have al : (a : Int) < l.length := pk.2
     have g2 := nu_get (l := fitL l m) (j := a) (by simp [fitL]; omega)
     rw [fitL_get (by omega)] at g2
     have o1 := or_64 lk (lt_64 (fitS_lt (m := m) (s := zD l a)) M)
     rw [← e1] at o1
     repeat' first | (with_reducible first | refine k_seq ?_ | refine k_skip ?_ | refine k_blkS ?_ | refine k_blkR ?_ | refine k_blkC ?_ | refine k_blkH ?_ | refine k_blkB ?_ | refine k_blkK ?_ | refine k_blkE ?_ | refine k_reg ?_) | with_reducible refine r_done ?_ | with_reducible refine s_go (by simp (disch := omega) only [jlt', g, al, g2, o1, row_m x4, read_row (row_m x4), RG18, EVA, plug, eq_self, simprocAttr]; with_reducible rfl) ?_ | ((with_reducible refine chk_r ?_); refine r_callF (by simp only [CA, simprocAttr]; rfl) (by exact rfl) (by simp only [CA, simprocAttr]; rfl) rfl ?_) | (with_reducible refine k_condP (by simp only [GA, simprocAttr]; rfl) (by first | (simp only [BO]; rfl) | rfl) (fun ht => ?_) (fun ht => ?_) <;> try (first | exact False.elim ht | exact absurd rfl ht | exact absurd trivial ht | exact Bool.noConfusion ht)) | (with_reducible refine k_ret ?_; repeat with_reducible (first | refine ret_thru ?_ | refine ret_blk ?_ | refine fin ?_)) | (with_reducible refine k_exit ?_; repeat with_reducible (first | refine thru ?_ | refine out_blk ?_ | refine pass (by decide) ?_)) | ((first | refine post1 ?_ | refine post2 ?_ | refine post3 ?_); simp only [GA, simprocAttr]) | refine post0 ?_
     exact ⟨jlt, (), (by simp only [Am.keep, List.map_cons, List.map_nil, GA, simprocAttr]; try rfl), by simp (disch := omega) only [hy4, RG18, EVA, plug, eq_self, simprocAttr], by simp (disch := omega) only [x4, RG18, EVA, plug, eq_self, simprocAttr]⟩
    ·obtain rfl : j = li.length := by omega
     have jlt' : ¬ (li.length : Int) < li.length := by omega
     have q50 := d50 li B (by omega) (by omega)
     generalize orS (fitL l m) li li.length = o at *
     by_cases w : o = wh
     ·have w' := eq_true (show (o : Int) = wh by omega)
      have cv1 := we.1 w
      cases F with
      | false =>
        have es := eT cv1 (.inl rfl)
        repeat' first | (with_reducible first | refine k_seq ?_ | refine k_skip ?_ | refine k_blkS ?_ | refine k_blkR ?_ | refine k_blkC ?_ | refine k_blkH ?_ | refine k_blkB ?_ | refine k_blkK ?_ | refine k_blkE ?_ | refine k_reg ?_) | with_reducible refine r_done ?_ | with_reducible refine s_go (by simp (disch := omega) only [jlt', w', RG18, EVA, plug, eq_self, simprocAttr]; with_reducible rfl) ?_ | ((with_reducible refine chk_r ?_); refine r_callF (by simp only [CA, simprocAttr]; rfl) (by exact rfl) (by simp only [CA, simprocAttr]; rfl) rfl ?_) | ((with_reducible refine chk_r ?_); refine r_callP (by simp only [CA, simprocAttr]; rfl) (by simp only [CA, simprocAttr]; rfl) (by first | ((refine PC.at q50 rfl ?F; case F => (refine .cons (.row (by simp (disch := omega) only [row_m x4, RG18, EVA, plug, eq_self, simprocAttr] <;> rfl) (il_plain _)) (.cons (.row (by simp (disch := omega) only [row_m hy4, RG18, EVA, plug, eq_self, simprocAttr] <;> rfl) (il_plain _)) .nil))); all_goals fail)) rfl ?_) | ((with_reducible refine chk_r ?_); refine r_callG (by simp only [CA, simprocAttr]; rfl) (by simp only [CA, simprocAttr]; rfl) (by simp only [CA, simprocAttr]; rfl) (by intro hg; (try simp only [BO] at hg); first | ((refine PC.at q50 rfl ?F; case F => (refine .cons (.row (by simp (disch := omega) only [row_m x4, RG18, EVA, plug, eq_self, simprocAttr] <;> rfl) (il_plain _)) (.cons (.row (by simp (disch := omega) only [row_m hy4, RG18, EVA, plug, eq_self, simprocAttr] <;> rfl) (il_plain _)) .nil))); all_goals fail)) rfl ?_) | (with_reducible refine k_condP (by simp only [GA, simprocAttr]; rfl) (by first | (simp only [BO]; rfl) | rfl) (fun ht => ?_) (fun ht => ?_) <;> try (first | exact False.elim ht | exact absurd rfl ht | exact absurd trivial ht | exact Bool.noConfusion ht)) | (with_reducible refine k_ret ?_; repeat with_reducible (first | refine ret_thru ?_ | refine ret_blk ?_ | refine fin ?_)) | (with_reducible refine k_exit ?_; repeat with_reducible (first | refine thru ?_ | refine out_blk ?_ | refine pass (by decide) ?_)) | ((first | refine post1 ?_ | refine post2 ?_ | refine post3 ?_); simp only [GA, simprocAttr]) | refine post0 ?_
        exact ⟨klt, x, (by rw [es]; exact (by simp only [Am.keep, List.map_cons, List.map_nil, GA, simprocAttr]; try rfl)), x0, by rw [es]; simp (disch := omega) only [x4, RG18, EVA, plug, eq_self, simprocAttr]⟩
      | true =>
        by_cases c1 : li.length < B.length
        ·have c1' := eq_true (show (li.length : Int) < B.length by omega)
         have es := eT cv1 (.inr (.inl c1))
         repeat' first | (with_reducible first | refine k_seq ?_ | refine k_skip ?_ | refine k_blkS ?_ | refine k_blkR ?_ | refine k_blkC ?_ | refine k_blkH ?_ | refine k_blkB ?_ | refine k_blkK ?_ | refine k_blkE ?_ | refine k_reg ?_) | with_reducible refine r_done ?_ | with_reducible refine s_go (by simp (disch := omega) only [jlt', w', c1', RG18, EVA, plug, eq_self, simprocAttr]; with_reducible rfl) ?_ | ((with_reducible refine chk_r ?_); refine r_callF (by simp only [CA, simprocAttr]; rfl) (by exact rfl) (by simp only [CA, simprocAttr]; rfl) rfl ?_) | ((with_reducible refine chk_r ?_); refine r_callP (by simp only [CA, simprocAttr]; rfl) (by simp only [CA, simprocAttr]; rfl) (by first | ((refine PC.at q50 rfl ?F; case F => (refine .cons (.row (by simp (disch := omega) only [row_m x4, RG18, EVA, plug, eq_self, simprocAttr] <;> rfl) (il_plain _)) (.cons (.row (by simp (disch := omega) only [row_m hy4, RG18, EVA, plug, eq_self, simprocAttr] <;> rfl) (il_plain _)) .nil))); all_goals fail)) rfl ?_) | ((with_reducible refine chk_r ?_); refine r_callG (by simp only [CA, simprocAttr]; rfl) (by simp only [CA, simprocAttr]; rfl) (by simp only [CA, simprocAttr]; rfl) (by intro hg; (try simp only [BO] at hg); first | ((refine PC.at q50 rfl ?F; case F => (refine .cons (.row (by simp (disch := omega) only [row_m x4, RG18, EVA, plug, eq_self, simprocAttr] <;> rfl) (il_plain _)) (.cons (.row (by simp (disch := omega) only [row_m hy4, RG18, EVA, plug, eq_self, simprocAttr] <;> rfl) (il_plain _)) .nil))); all_goals fail)) rfl ?_) | (with_reducible refine k_condP (by simp only [GA, simprocAttr]; rfl) (by first | (simp only [BO]; rfl) | rfl) (fun ht => ?_) (fun ht => ?_) <;> try (first | exact False.elim ht | exact absurd rfl ht | exact absurd trivial ht | exact Bool.noConfusion ht)) | (with_reducible refine k_ret ?_; repeat with_reducible (first | refine ret_thru ?_ | refine ret_blk ?_ | refine fin ?_)) | (with_reducible refine k_exit ?_; repeat with_reducible (first | refine thru ?_ | refine out_blk ?_ | refine pass (by decide) ?_)) | ((first | refine post1 ?_ | refine post2 ?_ | refine post3 ?_); simp only [GA, simprocAttr]) | refine post0 ?_
         exact ⟨klt, x, (by rw [es]; exact (by simp only [Am.keep, List.map_cons, List.map_nil, GA, simprocAttr]; try rfl)), x0, by rw [es]; simp (disch := omega) only [x4, RG18, EVA, plug, eq_self, simprocAttr]⟩
        ·have c1' := eq_false (show ¬ (li.length : Int) < B.length by omega)
         by_cases c2 : li.length = B.length
         ·have c2' := eq_true (show (li.length : Int) = B.length by omega)
          by_cases c3 : cmpL li B < 0
          ·have c3' := eq_true c3
           have es := eT cv1 (.inr (.inr ⟨c2, c3⟩))
           repeat' first | (with_reducible first | refine k_seq ?_ | refine k_skip ?_ | refine k_blkS ?_ | refine k_blkR ?_ | refine k_blkC ?_ | refine k_blkH ?_ | refine k_blkB ?_ | refine k_blkK ?_ | refine k_blkE ?_ | refine k_reg ?_) | with_reducible refine r_done ?_ | with_reducible refine s_go (by simp (disch := omega) only [jlt', w', c1', c2', c3', RG18, EVA, plug, eq_self, simprocAttr]; with_reducible rfl) ?_ | ((with_reducible refine chk_r ?_); refine r_callF (by simp only [CA, simprocAttr]; rfl) (by exact rfl) (by simp only [CA, simprocAttr]; rfl) rfl ?_) | ((with_reducible refine chk_r ?_); refine r_callP (by simp only [CA, simprocAttr]; rfl) (by simp only [CA, simprocAttr]; rfl) (by first | ((refine PC.at q50 rfl ?F; case F => (refine .cons (.row (by simp (disch := omega) only [row_m x4, RG18, EVA, plug, eq_self, simprocAttr] <;> rfl) (il_plain _)) (.cons (.row (by simp (disch := omega) only [row_m hy4, RG18, EVA, plug, eq_self, simprocAttr] <;> rfl) (il_plain _)) .nil))); all_goals fail)) rfl ?_) | ((with_reducible refine chk_r ?_); refine r_callG (by simp only [CA, simprocAttr]; rfl) (by simp only [CA, simprocAttr]; rfl) (by simp only [CA, simprocAttr]; rfl) (by intro hg; (try simp only [BO] at hg); first | ((refine PC.at q50 rfl ?F; case F => (refine .cons (.row (by simp (disch := omega) only [row_m x4, RG18, EVA, plug, eq_self, simprocAttr] <;> rfl) (il_plain _)) (.cons (.row (by simp (disch := omega) only [row_m hy4, RG18, EVA, plug, eq_self, simprocAttr] <;> rfl) (il_plain _)) .nil))); all_goals fail)) rfl ?_) | (with_reducible refine k_condP (by simp only [GA, simprocAttr]; rfl) (by first | (simp only [BO]; rfl) | rfl) (fun ht => ?_) (fun ht => ?_) <;> try (first | exact False.elim ht | exact absurd rfl ht | exact absurd trivial ht | exact Bool.noConfusion ht)) | (with_reducible refine k_ret ?_; repeat with_reducible (first | refine ret_thru ?_ | refine ret_blk ?_ | refine fin ?_)) | (with_reducible refine k_exit ?_; repeat with_reducible (first | refine thru ?_ | refine out_blk ?_ | refine pass (by decide) ?_)) | ((first | refine post1 ?_ | refine post2 ?_ | refine post3 ?_); simp only [GA, simprocAttr]) | refine post0 ?_
           exact ⟨klt, x, (by rw [es]; exact (by simp only [Am.keep, List.map_cons, List.map_nil, GA, simprocAttr]; try rfl)), x0, by rw [es]; simp (disch := omega) only [x4, RG18, EVA, plug, eq_self, simprocAttr]⟩
          ·have c3' := eq_false c3
           have es := eF fun _ => by simp [c1, c3]
           repeat' first | (with_reducible first | refine k_seq ?_ | refine k_skip ?_ | refine k_blkS ?_ | refine k_blkR ?_ | refine k_blkC ?_ | refine k_blkH ?_ | refine k_blkB ?_ | refine k_blkK ?_ | refine k_blkE ?_ | refine k_reg ?_) | with_reducible refine r_done ?_ | with_reducible refine s_go (by simp (disch := omega) only [jlt', w', c1', c2', c3', RG18, EVA, plug, eq_self, simprocAttr]; with_reducible rfl) ?_ | ((with_reducible refine chk_r ?_); refine r_callF (by simp only [CA, simprocAttr]; rfl) (by exact rfl) (by simp only [CA, simprocAttr]; rfl) rfl ?_) | ((with_reducible refine chk_r ?_); refine r_callP (by simp only [CA, simprocAttr]; rfl) (by simp only [CA, simprocAttr]; rfl) (by first | ((refine PC.at q50 rfl ?F; case F => (refine .cons (.row (by simp (disch := omega) only [row_m x4, RG18, EVA, plug, eq_self, simprocAttr] <;> rfl) (il_plain _)) (.cons (.row (by simp (disch := omega) only [row_m hy4, RG18, EVA, plug, eq_self, simprocAttr] <;> rfl) (il_plain _)) .nil))); all_goals fail)) rfl ?_) | ((with_reducible refine chk_r ?_); refine r_callG (by simp only [CA, simprocAttr]; rfl) (by simp only [CA, simprocAttr]; rfl) (by simp only [CA, simprocAttr]; rfl) (by intro hg; (try simp only [BO] at hg); first | ((refine PC.at q50 rfl ?F; case F => (refine .cons (.row (by simp (disch := omega) only [row_m x4, RG18, EVA, plug, eq_self, simprocAttr] <;> rfl) (il_plain _)) (.cons (.row (by simp (disch := omega) only [row_m hy4, RG18, EVA, plug, eq_self, simprocAttr] <;> rfl) (il_plain _)) .nil))); all_goals fail)) rfl ?_) | (with_reducible refine k_condP (by simp only [GA, simprocAttr]; rfl) (by first | (simp only [BO]; rfl) | rfl) (fun ht => ?_) (fun ht => ?_) <;> try (first | exact False.elim ht | exact absurd rfl ht | exact absurd trivial ht | exact Bool.noConfusion ht)) | (with_reducible refine k_ret ?_; repeat with_reducible (first | refine ret_thru ?_ | refine ret_blk ?_ | refine fin ?_)) | (with_reducible refine k_exit ?_; repeat with_reducible (first | refine thru ?_ | refine out_blk ?_ | refine pass (by decide) ?_)) | ((first | refine post1 ?_ | refine post2 ?_ | refine post3 ?_); simp only [GA, simprocAttr]) | refine post0 ?_
           exact ⟨klt, y, (by rw [es, pr]; exact (by simp only [Am.keep, List.map_cons, List.map_nil, GA, simprocAttr]; try rfl)), hy, by rw [es, pr]; simp (disch := omega) only [hy4, RG18, EVA, plug, eq_self, simprocAttr]⟩
         ·have c2' := eq_false (show ¬ (li.length : Int) = B.length by omega)
          have es := eF fun _ => by simp [c1, c2]
          repeat' first | (with_reducible first | refine k_seq ?_ | refine k_skip ?_ | refine k_blkS ?_ | refine k_blkR ?_ | refine k_blkC ?_ | refine k_blkH ?_ | refine k_blkB ?_ | refine k_blkK ?_ | refine k_blkE ?_ | refine k_reg ?_) | with_reducible refine r_done ?_ | with_reducible refine s_go (by simp (disch := omega) only [jlt', w', c1', c2', RG18, EVA, plug, eq_self, simprocAttr]; with_reducible rfl) ?_ | ((with_reducible refine chk_r ?_); refine r_callF (by simp only [CA, simprocAttr]; rfl) (by exact rfl) (by simp only [CA, simprocAttr]; rfl) rfl ?_) | ((with_reducible refine chk_r ?_); refine r_callP (by simp only [CA, simprocAttr]; rfl) (by simp only [CA, simprocAttr]; rfl) (by first | ((refine PC.at q50 rfl ?F; case F => (refine .cons (.row (by simp (disch := omega) only [row_m x4, RG18, EVA, plug, eq_self, simprocAttr] <;> rfl) (il_plain _)) (.cons (.row (by simp (disch := omega) only [row_m hy4, RG18, EVA, plug, eq_self, simprocAttr] <;> rfl) (il_plain _)) .nil))); all_goals fail)) rfl ?_) | ((with_reducible refine chk_r ?_); refine r_callG (by simp only [CA, simprocAttr]; rfl) (by simp only [CA, simprocAttr]; rfl) (by simp only [CA, simprocAttr]; rfl) (by intro hg; (try simp only [BO] at hg); first | ((refine PC.at q50 rfl ?F; case F => (refine .cons (.row (by simp (disch := omega) only [row_m x4, RG18, EVA, plug, eq_self, simprocAttr] <;> rfl) (il_plain _)) (.cons (.row (by simp (disch := omega) only [row_m hy4, RG18, EVA, plug, eq_self, simprocAttr] <;> rfl) (il_plain _)) .nil))); all_goals fail)) rfl ?_) | (with_reducible refine k_condP (by simp only [GA, simprocAttr]; rfl) (by first | (simp only [BO]; rfl) | rfl) (fun ht => ?_) (fun ht => ?_) <;> try (first | exact False.elim ht | exact absurd rfl ht | exact absurd trivial ht | exact Bool.noConfusion ht)) | (with_reducible refine k_ret ?_; repeat with_reducible (first | refine ret_thru ?_ | refine ret_blk ?_ | refine fin ?_)) | (with_reducible refine k_exit ?_; repeat with_reducible (first | refine thru ?_ | refine out_blk ?_ | refine pass (by decide) ?_)) | ((first | refine post1 ?_ | refine post2 ?_ | refine post3 ?_); simp only [GA, simprocAttr]) | refine post0 ?_
          exact ⟨klt, y, (by rw [es, pr]; exact (by simp only [Am.keep, List.map_cons, List.map_nil, GA, simprocAttr]; try rfl)), hy, by rw [es, pr]; simp (disch := omega) only [hy4, RG18, EVA, plug, eq_self, simprocAttr]⟩
     ·have w' := eq_false (show ¬ (o : Int) = wh by omega)
      have es := eF fun q => absurd (we.2 q) w
      repeat' first | (with_reducible first | refine k_seq ?_ | refine k_skip ?_ | refine k_blkS ?_ | refine k_blkR ?_ | refine k_blkC ?_ | refine k_blkH ?_ | refine k_blkB ?_ | refine k_blkK ?_ | refine k_blkE ?_ | refine k_reg ?_) | with_reducible refine r_done ?_ | with_reducible refine s_go (by simp (disch := omega) only [jlt', w', RG18, EVA, plug, eq_self, simprocAttr]; with_reducible rfl) ?_ | ((with_reducible refine chk_r ?_); refine r_callF (by simp only [CA, simprocAttr]; rfl) (by exact rfl) (by simp only [CA, simprocAttr]; rfl) rfl ?_) | ((with_reducible refine chk_r ?_); refine r_callP (by simp only [CA, simprocAttr]; rfl) (by simp only [CA, simprocAttr]; rfl) (by first | ((refine PC.at q50 rfl ?F; case F => (refine .cons (.row (by simp (disch := omega) only [row_m x4, RG18, EVA, plug, eq_self, simprocAttr] <;> rfl) (il_plain _)) (.cons (.row (by simp (disch := omega) only [row_m hy4, RG18, EVA, plug, eq_self, simprocAttr] <;> rfl) (il_plain _)) .nil))); all_goals fail)) rfl ?_) | ((with_reducible refine chk_r ?_); refine r_callG (by simp only [CA, simprocAttr]; rfl) (by simp only [CA, simprocAttr]; rfl) (by simp only [CA, simprocAttr]; rfl) (by intro hg; (try simp only [BO] at hg); first | ((refine PC.at q50 rfl ?F; case F => (refine .cons (.row (by simp (disch := omega) only [row_m x4, RG18, EVA, plug, eq_self, simprocAttr] <;> rfl) (il_plain _)) (.cons (.row (by simp (disch := omega) only [row_m hy4, RG18, EVA, plug, eq_self, simprocAttr] <;> rfl) (il_plain _)) .nil))); all_goals fail)) rfl ?_) | (with_reducible refine k_condP (by simp only [GA, simprocAttr]; rfl) (by first | (simp only [BO]; rfl) | rfl) (fun ht => ?_) (fun ht => ?_) <;> try (first | exact False.elim ht | exact absurd rfl ht | exact absurd trivial ht | exact Bool.noConfusion ht)) | (with_reducible refine k_ret ?_; repeat with_reducible (first | refine ret_thru ?_ | refine ret_blk ?_ | refine fin ?_)) | (with_reducible refine k_exit ?_; repeat with_reducible (first | refine thru ?_ | refine out_blk ?_ | refine pass (by decide) ?_)) | ((first | refine post1 ?_ | refine post2 ?_ | refine post3 ?_); simp only [GA, simprocAttr]) | refine post0 ?_
      exact ⟨klt, y, (by rw [es, pr]; exact (by simp only [Am.keep, List.map_cons, List.map_nil, GA, simprocAttr]; try rfl)), hy, by rw [es, pr]; simp (disch := omega) only [hy4, RG18, EVA, plug, eq_self, simprocAttr]⟩
   ·obtain rfl : k = 2 ^ l.length := by omega
    have klt' : ¬ ((2 ^ l.length : Nat) : Int) < ((2 ^ l.length : Nat) : Int) := by omega
    cases d : (cvN (cvsB l m) (2 ^ l.length)).1 with
    | true =>
      rw [if_pos d] at hA hB
      repeat' first | (with_reducible first | refine k_seq ?_ | refine k_skip ?_ | refine k_blkS ?_ | refine k_blkR ?_ | refine k_blkC ?_ | refine k_blkH ?_ | refine k_blkB ?_ | refine k_blkK ?_ | refine k_blkE ?_ | refine k_reg ?_) | with_reducible refine r_done ?_ | with_reducible refine s_go (by simp (disch := omega) only [klt', d, RG18, EVA, plug, eq_self, simprocAttr]; with_reducible rfl) ?_ | ((with_reducible refine chk_r ?_); refine r_callF (by simp only [CA, simprocAttr]; rfl) (by exact rfl) (by simp only [CA, simprocAttr]; rfl) rfl ?_) | (with_reducible refine k_condP (by simp only [GA, simprocAttr]; rfl) (by first | (simp only [BO]; rfl) | rfl) (fun ht => ?_) (fun ht => ?_) <;> try (first | exact False.elim ht | exact absurd rfl ht | exact absurd trivial ht | exact Bool.noConfusion ht)) | (with_reducible refine k_ret ?_; repeat with_reducible (first | refine ret_thru ?_ | refine ret_blk ?_ | refine fin ?_)) | (with_reducible refine k_exit ?_; repeat with_reducible (first | refine thru ?_ | refine out_blk ?_ | refine pass (by decide) ?_)) | ((first | refine post1 ?_ | refine post2 ?_ | refine post3 ?_); simp only [GA, simprocAttr]) | refine post0 ?_
      exact hA _ _ hmy
    | false =>
      rw [if_neg (by simp [d])] at hA hB
      repeat' first | (with_reducible first | refine k_seq ?_ | refine k_skip ?_ | refine k_blkS ?_ | refine k_blkR ?_ | refine k_blkC ?_ | refine k_blkH ?_ | refine k_blkB ?_ | refine k_blkK ?_ | refine k_blkE ?_ | refine k_reg ?_) | with_reducible refine r_done ?_ | with_reducible refine s_go (by simp (disch := omega) only [klt', d, RG18, EVA, plug, eq_self, simprocAttr]; with_reducible rfl) ?_ | ((with_reducible refine chk_r ?_); refine r_callF (by simp only [CA, simprocAttr]; rfl) (by exact rfl) (by simp only [CA, simprocAttr]; rfl) rfl ?_) | (with_reducible refine k_condP (by simp only [GA, simprocAttr]; rfl) (by first | (simp only [BO]; rfl) | rfl) (fun ht => ?_) (fun ht => ?_) <;> try (first | exact False.elim ht | exact absurd rfl ht | exact absurd trivial ht | exact Bool.noConfusion ht)) | (with_reducible refine k_ret ?_; repeat with_reducible (first | refine ret_thru ?_ | refine ret_blk ?_ | refine fin ?_)) | (with_reducible refine k_exit ?_; repeat with_reducible (first | refine thru ?_ | refine out_blk ?_ | refine pass (by decide) ?_)) | ((first | refine post1 ?_ | refine post2 ?_ | refine post3 ?_); simp only [GA, simprocAttr]) | refine post0 ?_
      exact hB rfl _
 ·have c' := eq_false c
  rw [if_pos c] at hA hB
  repeat' first | (with_reducible first | refine k_seq ?_ | refine k_skip ?_ | refine k_blkS ?_ | refine k_blkR ?_ | refine k_blkC ?_ | refine k_blkH ?_ | refine k_blkB ?_ | refine k_blkK ?_ | refine k_blkE ?_ | refine k_reg ?_) | with_reducible refine r_done ?_ | with_reducible refine s_go (by simp (disch := omega) only [c', RG18, EVA, plug, eq_self, simprocAttr]; with_reducible rfl) ?_ | ((with_reducible refine chk_r ?_); refine r_callF (by simp only [CA, simprocAttr]; rfl) (by exact rfl) (by simp only [CA, simprocAttr]; rfl) rfl ?_) | ((with_reducible refine chk_r ?_); refine r_callP (by simp only [CA, simprocAttr]; rfl) (by simp only [CA, simprocAttr]; rfl) (by first | exact q1 _) rfl ?_) | ((with_reducible refine chk_r ?_); refine r_callG (by simp only [CA, simprocAttr]; rfl) (by simp only [CA, simprocAttr]; rfl) (by simp only [CA, simprocAttr]; rfl) (by intro hg; (try simp only [BO] at hg); first | exact q1 _) rfl ?_) | (with_reducible refine k_condP (by simp only [GA, simprocAttr]; rfl) (by first | (simp only [BO]; rfl) | rfl) (fun ht => ?_) (fun ht => ?_) <;> try (first | exact False.elim ht | exact absurd rfl ht | exact absurd trivial ht | exact Bool.noConfusion ht)) | (with_reducible refine k_ret ?_; repeat with_reducible (first | refine ret_thru ?_ | refine ret_blk ?_ | refine fin ?_)) | (with_reducible refine k_exit ?_; repeat with_reducible (first | refine thru ?_ | refine out_blk ?_ | refine pass (by decide) ?_)) | ((first | refine post1 ?_ | refine post2 ?_ | refine post3 ?_); simp only [GA, simprocAttr]) | refine post0 ?_
  exact hB rfl _
theorem n18 (l : List Sz) (m : List Hd) (hl : l.length ≤ 9223372036854775807) (hm : m.length ≤ 9223372036854775807) (h : AH) : FCalls Tryd.prog 18 [vZ l, vH m] h (some ([], [.i .i64 (cvrR l m).2])) (cvrR l m).1.length 1 (il (cvrR l m).1) := by
 refine fresh_call rfl (il_plain _) fun h0 hr _ => ?_
 refine a18 l m hl hm (fun x h2 hx => ⟨_, rfl, x, 0, 1, rfl, .inr ⟨_, rfl, hx, by rw [il_len]; omega, by rw [List.drop_zero, List.take_of_length_le (by rw [il_len]; omega)]⟩⟩) (fun e h2 => ?_) h0
 rw [e]
 exact ⟨_, rfl, 0, 0, 0, rfl, .inl ⟨rfl, rfl, rfl⟩⟩
theorem il_scals (o : List Int) : AV.scals (il o) = true := by
 induction o with
 | nil => rfl
 | cons x o ih => simp only [il, List.map_cons, AV.scals, AV.scal, Bool.true_and]; exact ih
theorem n18s (l : List Sz) (s : Sz) (m : List Hd) (hl : l.length ≤ 100) (hm : m.length ≤ 9223372036854775807) (t a : Nat) (h : AH) (hr : h.row t = some (fl eZ l ++ eZ s)) : FCalls Tryd.prog 18 [.sl t 0 (l.length + 1) a, vH m] h (some ([], [.i .i64 (cvrR (l ++ [s]) m).2])) (cvrR (l ++ [s]) m).1.length 1 (il (cvrR (l ++ [s]) m).1) := by
 have q := n18 (l ++ [s]) m (by rw [List.length_append, List.length_singleton]; omega) hm H1
 rw [vZ, ← fl_snoc, List.length_append, List.length_singleton] at q
 exact q.at rfl (il_scals _) (.cons (.row hr (by rw [fl_snoc]; exact fleZ_plain _)) (.cons (.same (fleH_plain m)) .nil))
theorem n18h (l : List Sz) (x : Hd) (m : List Hd) (hl : l.length ≤ 9223372036854775807) (hm : m.length ≤ 100) (t a : Nat) (h : AH) (hr : h.row t = some (fl eH m ++ eH x)) : FCalls Tryd.prog 18 [vZ l, .sl t 0 (m.length + 1) a] h (some ([], [.i .i64 (cvrR l (m ++ [x])).2])) (cvrR l (m ++ [x])).1.length 1 (il (cvrR l (m ++ [x])).1) := by
 have q := n18 l (m ++ [x]) hl (by rw [List.length_append, List.length_singleton]; omega) H1
 rw [vH, ← fl_snoc, List.length_append, List.length_singleton] at q
 exact q.at rfl (il_scals _) (.cons (.same (fleZ_plain l)) (.cons (.row hr (by rw [fl_snoc]; exact fleH_plain _)) .nil))
theorem zD_snoc {l : List Sz} {s : Sz} {i : Nat} (h : i < l.length) : zD (l ++ [s]) i = zD l i := by
 unfold zD
 rw [List.getD_eq_getElem?_getD, List.getD_eq_getElem?_getD, List.getElem?_append, if_pos h]
theorem hD_snoc {m : List Hd} {x : Hd} {i : Nat} (h : i < m.length) : hD (m ++ [x]) i = hD m i := by
 unfold hD
 rw [List.getD_eq_getElem?_getD, List.getD_eq_getElem?_getD, List.getElem?_append, if_pos h]
theorem more_size {l : List Sz} {m : List Hd} (s : Sz) (h : (cvrR l m).2 = 0) : ((cvrR (l ++ [s]) m).2 = 0 → (cvrR (l ++ [s]) m).1.length ≤ (cvrR l m).1.length) ∧ (cvrR (l ++ [s]) m).2 ≠ 32 := by
 obtain ⟨k, n12, L⟩ := cvr_ok h
 have c : cand (cvsB (l ++ [s]) m) (l ++ [s]).length (cvrR l m).1 := by
  refine ⟨L.1.1, fun x hx => ?_, cvs_iff.2 fun k hk => ?_⟩
  ·have := L.1.2.1 x hx
   rw [List.length_append, List.length_singleton]; omega
  ·obtain ⟨i, hi, q⟩ := cvs_iff.1 L.1.2.2 k hk
   have := L.1.2.1 i hi
   exact ⟨i, hi, by rw [zD_snoc (by omega)]; exact q⟩
 refine ⟨fun a => least_le a (pk_of_asc c.1 c.2.1) c.2.2, fun a => ?_⟩
 unfold cvrR at a
 split at a
 ·unfold chk at a
  split at a
  ·cases a
  ·split at a <;> cases a
 ·split at a
  ·cases a
  ·rename_i h12
   split at a
   ·cases a
   ·rename_i d
    exact (cvN_least (p := cvsB (l ++ [s]) m) (n := (l ++ [s]).length) (by omega)).2 (by simpa using d) _ c
theorem more_head {l : List Sz} {m : List Hd} (x : Hd) (h : (cvrR l m).2 = 0) (g : (cvrR l (m ++ [x])).2 = 0) : (cvrR l m).1.length ≤ (cvrR l (m ++ [x])).1.length := by
 obtain ⟨k, n12, L⟩ := cvr_ok g
 refine least_le h (pk_of_asc L.1.1 L.1.2.1) (cvs_iff.2 fun k hk => ?_)
 obtain ⟨i, hi, q⟩ := cvs_iff.1 L.1.2.2 k (by rw [List.length_append, List.length_singleton]; omega)
 exact ⟨i, hi, by rw [hD_snoc hk] at q; exact q⟩
theorem fl_one {α : Type} {enc : α → List AV} (h : ∀ x, (enc x).all AV.one = true) : ∀ l, (fl enc l).all AV.one = true
 | [] => rfl
 | x :: l => by rw [fl_cons, List.all_append, h x, fl_one h l]; rfl
theorem RG4 : (type_of% @c4r0.eq_1) ∧ (type_of% @c4r1.eq_1) ∧ (type_of% @c4r2.eq_1) ∧ (type_of% @c4r3.eq_1) ∧ (type_of% @c4r4.eq_1) ∧ (type_of% @c4r5.eq_1) ∧ (type_of% @c4r6.eq_1) ∧ (type_of% @c4r7.eq_1) ∧ (type_of% @c4r8.eq_1) := ⟨@c4r0.eq_1, @c4r1.eq_1, @c4r2.eq_1, @c4r3.eq_1, @c4r4.eq_1, @c4r5.eq_1, @c4r6.eq_1, @c4r7.eq_1, @c4r8.eq_1⟩
set_option maxHeartbeats 2000000 in
theorem d4 (l : List Sz) (m : List Hd) (s : Sz) (x : Hd) (hl : l.length ≤ 9223372036854775807) (hm : m.length ≤ 9223372036854775807) : PC Tryd.prog 4 [vZ l, vH m, .ag (eZ s), .ag (eH x)] (.b true) := by
 have q1 := d18 l m hl hm
 by_cases e0 : (cvrR l m).2 = 0
 ·obtain ⟨k, n12, L⟩ := cvr_ok e0
  have M := (hdsOk_iff.1 (chk_ok k).2).1
  have q2 := n18s l s m (by omega) hm
  have q3 := n18h l x m hl (by omega)
  have M1 := more_size s e0
  have M2 := more_head x e0
  rw [e0] at q1
  generalize (cvrR l m).1 = a at *
  generalize (cvrR (l ++ [s]) m).1 = b at *
  generalize (cvrR (l ++ [s]) m).2 = f at *
  generalize (cvrR l (m ++ [x])).1 = c at *
  generalize (cvrR l (m ++ [x])).2 = g at *
  have f32 := eq_false M1.2
  have fz := fl_len eZ_len l
  have fh := fl_len eH_len m
  have oz : (fl eZ l).all AV.one = true := fl_one (fun x => rfl) l
  have oh : (fl eH m).all AV.one = true := fl_one (fun x => rfl) m
  refine pc_fn fn4 (by simp only [AV.plains, AV.plain, il_plain, bl_plain, Bool.and_true, Bool.true_and, Bool.and_self, fleZ_plain, fleH_plain]) (by simp only [AV.plains, AV.plain, il_plain, bl_plain, Bool.and_true, Bool.true_and, Bool.and_self, fleZ_plain, fleH_plain]) (Nat.le_of_ble_eq_true rfl) ?_
  rw [initSt4]
  repeat' first | (with_reducible first | refine k_seq ?_ | refine k_skip ?_ | refine k_blkS ?_ | refine k_blkR ?_ | refine k_blkC ?_ | refine k_blkH ?_ | refine k_blkB ?_ | refine k_blkK ?_ | refine k_blkE ?_ | refine k_reg ?_) | with_reducible refine r_done ?_ | with_reducible refine s_go (by simp (disch := omega) only [eZ_rd, eH_rd, RG4, EVA, plug, eq_self, simprocAttr]; with_reducible rfl) ?_ | ((with_reducible refine chk_r ?_); refine r_callF (by simp only [CA, simprocAttr]; rfl) (by exact rfl) (by simp only [CA, simprocAttr]; rfl) rfl ?_) | ((with_reducible refine chk_r ?_); refine r_callP (by simp only [CA, simprocAttr]; rfl) (by simp only [CA, simprocAttr]; rfl) (by first | exact q1 _ | exact pc17 _) rfl ?_) | ((with_reducible refine chk_r ?_); refine r_callG (by simp only [CA, simprocAttr]; rfl) (by simp only [CA, simprocAttr]; rfl) (by simp only [CA, simprocAttr]; rfl) (by intro hg; (try simp only [BO] at hg); first | exact q1 _ | exact pc17 _) rfl ?_) | (with_reducible refine k_condP (by simp only [GA, simprocAttr]; rfl) (by first | (simp only [BO]; rfl) | rfl) (fun ht => ?_) (fun ht => ?_) <;> try (first | exact False.elim ht | exact absurd rfl ht | exact absurd trivial ht | exact Bool.noConfusion ht)) | (with_reducible refine k_ret ?_; repeat with_reducible (first | refine ret_thru ?_ | refine ret_blk ?_ | refine fin ?_)) | (with_reducible refine k_exit ?_; repeat with_reducible (first | refine thru ?_ | refine out_blk ?_ | refine pass (by decide) ?_)) | ((first | refine post1 ?_ | refine post2 ?_ | refine post3 ?_); simp only [GA, simprocAttr]) | refine post0 ?_
  refine w_hp (fun h => h.m 1 = some (.cells true (eZ s)) ∧ h.m 2 = some (.cells true (eH x))) ⟨by simp (disch := omega) only [RG4, EVA, plug, eq_self, simprocAttr] <;> rfl, by simp (disch := omega) only [RG4, EVA, plug, eq_self, simprocAttr] <;> rfl⟩ fun hp ⟨m1, m2⟩ ok pos => ?_
  refine k_headP [2, 5, 7] [0, 4] rfl (fun p i h1 h2 h3 h4 h5 => ?_) ?_
  ·simp only [List.contains_cons, List.contains_nil, Bool.or_false, Bool.or_eq_true, beq_iff_eq] at h3 h4
   rcases h3 with rfl | rfl | rfl <;> rcases h4 with rfl | rfl | rfl <;> first | omega | exact ⟨_, _, rfl, rfl, rfl⟩ | (have := h5 5 (by omega) (by omega); cases this)
  simp only [c4r4, List.take_succ_cons, List.take_zero, List.drop_succ_cons, List.drop_zero, List.length_cons, List.length_nil, Nat.reduceAdd]
  refine lp_lit (v := .sl 0 0 0 17) rfl (by decide) rfl (by decide) rfl rfl ?_
  refine lp_val rfl rfl (by simp (disch := omega) only [eZ_rd, eH_rd, m1, m2, row_m m1, row_m m2, read_row (row_m m1), read_row (row_m m2), RG4, EVA, plug, eq_self, simprocAttr]; with_reducible rfl) ?_
  refine lp_app rfl (by simp (disch := omega) only [fz, oz, RG4, EVA, plug, eq_self, simprocAttr] <;> rfl) (fun t c ht => by
   have lt := ok.m ht
   have e1 : ¬ t = hp.nx + 2 := by omega
   have e2 : ¬ t = hp.nx + 2 := by omega
   simp (disch := omega) only [e1, e2, ht, RG4, EVA, plug, eq_self, simprocAttr]) (fun e he => by
   have n1 : hp.m (hp.nx + e) = none := by
    cases q : hp.m (hp.nx + e) with
    | none => rfl
    | some c => have := ok.m q; omega
   simp only [List.mem_cons, List.not_mem_nil, or_false] at he
   have e1 : ¬ hp.nx + e = hp.nx + 2 := by omega
   have e2 : ¬ hp.nx + e = hp.nx + 2 := by omega
   simp (disch := omega) only [e1, e2, n1, RG4, EVA, plug, eq_self, simprocAttr]) ?_
  refine lp_val rfl rfl (by simp (disch := omega) only [eZ_rd, eH_rd, m1, m2, row_m m1, row_m m2, read_row (row_m m1), read_row (row_m m2), RG4, EVA, plug, eq_self, simprocAttr]; with_reducible rfl) ?_
  refine lp_lit (v := .vs 1 (eZ s)) (cs := eZ s) rfl (by decide) (by simp (disch := omega) only [RG4, EVA, plug, eq_self, simprocAttr] <;> rfl) (by decide) rfl rfl ?_
  refine lp_app rfl (by simp (disch := omega) only [fz, oz, List.length_append, RG4, EVA, plug, eq_self, simprocAttr] <;> rfl) (fun t c ht => by
   have lt := ok.m ht
   have e1 : ¬ t = hp.nx + 2 := by omega
   have e2 : ¬ t = hp.nx + 5 := by omega
   simp (disch := omega) only [e1, e2, ht, RG4, EVA, plug, eq_self, simprocAttr]) (fun e he => by
   have n1 : hp.m (hp.nx + e) = none := by
    cases q : hp.m (hp.nx + e) with
    | none => rfl
    | some c => have := ok.m q; omega
   simp only [List.mem_cons, List.not_mem_nil, or_false] at he
   have e1 : ¬ hp.nx + e = hp.nx + 2 := by omega
   have e2 : ¬ hp.nx + e = hp.nx + 5 := by omega
   simp (disch := omega) only [e1, e2, n1, RG4, EVA, plug, eq_self, simprocAttr]) ?_
  refine lp_val rfl rfl (by simp (disch := omega) only [eZ_rd, eH_rd, m1, m2, row_m m1, row_m m2, read_row (row_m m1), read_row (row_m m2), RG4, EVA, plug, eq_self, simprocAttr]; with_reducible rfl) ?_
  refine lp_new rfl (by simp only [CA, simprocAttr]; rfl) (by simp only [CA, simprocAttr]; rfl) (q2 _ _ _ (by simp (disch := omega) only [RG4, EVA, plug, eq_self, simprocAttr] <;> rfl)) (fun t c ht => by
   have lt := ok.m ht
   have e1 : ¬ t = hp.nx + 2 := by omega
   have e2 : ¬ t = hp.nx + 5 := by omega
   have e3 : ¬ t = hp.nx + 7 := by omega
   simp (disch := omega) only [e1, e2, e3, ht, RG4, EVA, plug, eq_self, simprocAttr]) (fun e he => by
   have n1 : hp.m (hp.nx + e) = none := by
    cases q : hp.m (hp.nx + e) with
    | none => rfl
    | some c => have := ok.m q; omega
   simp only [List.mem_cons, List.not_mem_nil, or_false] at he
   have e1 : ¬ hp.nx + e = hp.nx + 2 := by omega
   have e2 : ¬ hp.nx + e = hp.nx + 5 := by omega
   have e3 : ¬ hp.nx + e = hp.nx + 7 := by omega
   simp (disch := omega) only [e1, e2, e3, n1, RG4, EVA, plug, eq_self, simprocAttr]) ?_
  refine lp_val rfl rfl (by simp (disch := omega) only [eZ_rd, eH_rd, m1, m2, row_m m1, row_m m2, read_row (row_m m1), read_row (row_m m2), RG4, EVA, plug, eq_self, simprocAttr]; with_reducible rfl) ?_
  refine lp_val rfl rfl (by simp (disch := omega) only [eZ_rd, eH_rd, m1, m2, row_m m1, row_m m2, read_row (row_m m1), read_row (row_m m2), RG4, EVA, plug, eq_self, simprocAttr]; with_reducible rfl) ?_
  refine lp_val rfl rfl (by simp (disch := omega) only [eZ_rd, eH_rd, m1, m2, row_m m1, row_m m2, read_row (row_m m1), read_row (row_m m2), RG4, EVA, plug, eq_self, simprocAttr]; with_reducible rfl) ?_
  refine lp_val rfl rfl (by simp (disch := omega) only [eZ_rd, eH_rd, m1, m2, row_m m1, row_m m2, read_row (row_m m1), read_row (row_m m2), RG4, EVA, plug, eq_self, simprocAttr]; with_reducible rfl) ?_
  refine lp_done ?_
  refine s_go (by simp (disch := omega) only [RG4, EVA, plug, eq_self, simprocAttr]; with_reducible rfl) ?_
  refine r_done ?_
  have a0 := ok.m m2
  have a1 : ¬ 2 = hp.nx + 2 := by omega
  have a2 : ¬ 2 = hp.nx + 5 := by omega
  have a3 : ¬ 2 = hp.nx + 7 := by omega
  by_cases f0 : f = 0
  ·have f0' := eq_true f0
   have c1 := eq_false (show ¬ (a.length : Int) < b.length by have := M1.1 f0; omega)
   repeat' first | (with_reducible first | refine k_seq ?_ | refine k_skip ?_ | refine k_blkS ?_ | refine k_blkR ?_ | refine k_blkC ?_ | refine k_blkH ?_ | refine k_blkB ?_ | refine k_blkK ?_ | refine k_blkE ?_ | refine k_reg ?_) | with_reducible refine r_done ?_ | with_reducible refine s_go (by simp (disch := omega) only [f0', c1, f32, RG4, EVA, plug, eq_self, simprocAttr]; with_reducible rfl) ?_ | ((with_reducible refine chk_r ?_); refine r_callF (by simp only [CA, simprocAttr]; rfl) (by exact rfl) (by simp only [CA, simprocAttr]; rfl) rfl ?_) | (with_reducible refine k_condP (by simp only [GA, simprocAttr]; rfl) (by first | (simp only [BO]; rfl) | rfl) (fun ht => ?_) (fun ht => ?_) <;> try (first | exact False.elim ht | exact absurd rfl ht | exact absurd trivial ht | exact Bool.noConfusion ht)) | (with_reducible refine k_ret ?_; repeat with_reducible (first | refine ret_thru ?_ | refine ret_blk ?_ | refine fin ?_)) | (with_reducible refine k_exit ?_; repeat with_reducible (first | refine thru ?_ | refine out_blk ?_ | refine pass (by decide) ?_)) | ((first | refine post1 ?_ | refine post2 ?_ | refine post3 ?_); simp only [GA, simprocAttr]) | refine post0 ?_
   refine w_hp (fun h => h.m 2 = some (.cells true (eH x))) (by simp (disch := omega) only [a1, a2, a3, m2, RG4, EVA, plug, eq_self, simprocAttr] <;> rfl) fun hq n2 ok2 pos2 => ?_
   refine k_headP [3, 6, 7] [1, 5] rfl (fun p i h1 h2 h3 h4 h5 => ?_) ?_
   ·simp only [List.contains_cons, List.contains_nil, Bool.or_false, Bool.or_eq_true, beq_iff_eq] at h3 h4
    rcases h3 with rfl | rfl | rfl <;> rcases h4 with rfl | rfl | rfl <;> first | omega | exact ⟨_, _, rfl, rfl, rfl⟩ | (have := h5 6 (by omega) (by omega); cases this)
   simp only [c4r7, List.take_succ_cons, List.take_zero, List.drop_succ_cons, List.drop_zero, List.length_cons, List.length_nil, Nat.reduceAdd]
   refine lp_val rfl rfl (by simp (disch := omega) only [eZ_rd, eH_rd, n2, row_m n2, read_row (row_m n2), RG4, EVA, plug, eq_self, simprocAttr]; with_reducible rfl) ?_
   refine lp_lit (v := .sl 0 0 0 6) rfl (by decide) rfl (by decide) rfl rfl ?_
   refine lp_val rfl rfl (by simp (disch := omega) only [eZ_rd, eH_rd, n2, row_m n2, read_row (row_m n2), RG4, EVA, plug, eq_self, simprocAttr]; with_reducible rfl) ?_
   refine lp_app rfl (by simp (disch := omega) only [fh, oh, RG4, EVA, plug, eq_self, simprocAttr] <;> rfl) (fun t c ht => by
    have lt := ok2.m ht
    have e3 : ¬ t = hq.nx + 3 := by omega
    simp (disch := omega) only [e3, ht, RG4, EVA, plug, eq_self, simprocAttr]) (fun e he => by
    have n1 : hq.m (hq.nx + e) = none := by
     cases q : hq.m (hq.nx + e) with
     | none => rfl
     | some c => have := ok2.m q; omega
    simp only [List.mem_cons, List.not_mem_nil, or_false] at he
    have e3 : ¬ hq.nx + e = hq.nx + 3 := by omega
    simp (disch := omega) only [e3, n1, RG4, EVA, plug, eq_self, simprocAttr]) ?_
   refine lp_val rfl rfl (by simp (disch := omega) only [eZ_rd, eH_rd, n2, row_m n2, read_row (row_m n2), RG4, EVA, plug, eq_self, simprocAttr]; with_reducible rfl) ?_
   refine lp_lit (v := .vs 1 (eH x)) (cs := eH x) rfl (by decide) (by simp (disch := omega) only [RG4, EVA, plug, eq_self, simprocAttr] <;> rfl) (by decide) rfl rfl ?_
   refine lp_app rfl (by simp (disch := omega) only [fh, oh, List.length_append, RG4, EVA, plug, eq_self, simprocAttr] <;> rfl) (fun t c ht => by
    have lt := ok2.m ht
    have e3 : ¬ t = hq.nx + 3 := by omega
    have e6 : ¬ t = hq.nx + 6 := by omega
    simp (disch := omega) only [e3, e6, ht, RG4, EVA, plug, eq_self, simprocAttr]) (fun e he => by
    have n1 : hq.m (hq.nx + e) = none := by
     cases q : hq.m (hq.nx + e) with
     | none => rfl
     | some c => have := ok2.m q; omega
    simp only [List.mem_cons, List.not_mem_nil, or_false] at he
    have e3 : ¬ hq.nx + e = hq.nx + 3 := by omega
    have e6 : ¬ hq.nx + e = hq.nx + 6 := by omega
    simp (disch := omega) only [e3, e6, n1, RG4, EVA, plug, eq_self, simprocAttr]) ?_
   refine lp_new rfl (by simp only [CA, simprocAttr]; rfl) (by simp only [CA, simprocAttr]; rfl) (q3 _ _ _ (by simp (disch := omega) only [RG4, EVA, plug, eq_self, simprocAttr] <;> rfl)) (fun t c ht => by
    have lt := ok2.m ht
    have e3 : ¬ t = hq.nx + 3 := by omega
    have e6 : ¬ t = hq.nx + 6 := by omega
    have e7 : ¬ t = hq.nx + 7 := by omega
    simp (disch := omega) only [e3, e6, e7, ht, RG4, EVA, plug, eq_self, simprocAttr]) (fun e he => by
    have n1 : hq.m (hq.nx + e) = none := by
     cases q : hq.m (hq.nx + e) with
     | none => rfl
     | some c => have := ok2.m q; omega
    simp only [List.mem_cons, List.not_mem_nil, or_false] at he
    have e3 : ¬ hq.nx + e = hq.nx + 3 := by omega
    have e6 : ¬ hq.nx + e = hq.nx + 6 := by omega
    have e7 : ¬ hq.nx + e = hq.nx + 7 := by omega
    simp (disch := omega) only [e3, e6, e7, n1, RG4, EVA, plug, eq_self, simprocAttr]) ?_
   refine lp_val rfl rfl (by simp (disch := omega) only [eZ_rd, eH_rd, n2, row_m n2, read_row (row_m n2), RG4, EVA, plug, eq_self, simprocAttr]; with_reducible rfl) ?_
   refine lp_val rfl rfl (by simp (disch := omega) only [eZ_rd, eH_rd, n2, row_m n2, read_row (row_m n2), RG4, EVA, plug, eq_self, simprocAttr]; with_reducible rfl) ?_
   refine lp_val rfl rfl (by simp (disch := omega) only [eZ_rd, eH_rd, n2, row_m n2, read_row (row_m n2), RG4, EVA, plug, eq_self, simprocAttr]; with_reducible rfl) ?_
   refine lp_val rfl rfl (by simp (disch := omega) only [eZ_rd, eH_rd, n2, row_m n2, read_row (row_m n2), RG4, EVA, plug, eq_self, simprocAttr]; with_reducible rfl) ?_
   refine lp_done ?_
   refine s_go (by simp (disch := omega) only [RG4, EVA, plug, eq_self, simprocAttr]; with_reducible rfl) ?_
   refine r_done ?_
   by_cases g0 : g = 0
   ·have g0' := eq_true g0
    have c2 := eq_true (show (a.length : Int) ≤ c.length by have := M2 g0; omega)
    repeat' first | (with_reducible first | refine k_seq ?_ | refine k_skip ?_ | refine k_blkS ?_ | refine k_blkR ?_ | refine k_blkC ?_ | refine k_blkH ?_ | refine k_blkB ?_ | refine k_blkK ?_ | refine k_blkE ?_ | refine k_reg ?_) | with_reducible refine k_head (by with_unfolding_all rfl) ?_ | with_reducible refine k_headS ?_ | (with_reducible refine SepK.mk ?_ ?_; (refine sepQ_P ?_; simp [sepQ, sepG, AOp.late, AOp.free, AOp.xs, AOp.isAl, tokNe, AV.tok, stS_get, strip, AX.val, RG4, GA]; try omega)) | with_reducible refine r_done ?_ | with_reducible refine hr_done ?_ | with_reducible refine s_go (by simp (disch := omega) only [g0', c2, RG4, EVA, plug, eq_self, simprocAttr]; with_reducible rfl) ?_ | with_reducible refine h_go (by with_unfolding_all rfl) (by simp (disch := omega) only [g0', c2, RG4, EVA, plug, eq_self, simprocAttr]; with_reducible rfl) ?_ | ((with_reducible refine chk_r ?_); refine r_callF (by simp only [CA, simprocAttr]; rfl) (by exact rfl) (by simp only [CA, simprocAttr]; rfl) rfl ?_) | ((with_reducible refine chk_h ?_); refine hr_callF (by simp only [CA, simprocAttr]; rfl) (by exact rfl) (by simp only [CA, simprocAttr]; rfl) rfl ?_) | ((with_reducible refine chk_r ?_); refine r_callP (by simp only [CA, simprocAttr]; rfl) (by simp only [CA, simprocAttr]; rfl) (by first | exact pc17 _) rfl ?_) | ((with_reducible refine chk_h ?_); refine hr_callP (by simp only [CA, simprocAttr]; rfl) (by simp only [CA, simprocAttr]; rfl) (by first | exact pc17 _) rfl ?_) | ((with_reducible refine chk_h ?_); refine hr_callP1 (by simp only [CA, simprocAttr]; rfl) (by simp only [CA, simprocAttr]; rfl) (by simp (disch := omega) only [CA, Nat.reduceEqDiff, ↓reduceIte, firstTok_nil, firstTok_sl, firstTok_sl0, firstTok_i, firstTok_b, firstTok_ag, firstTok_p, firstTok_s]; rfl) (by first | exact pc17 _) rfl ?_) | ((with_reducible refine chk_r ?_); refine r_callG (by simp only [CA, simprocAttr]; rfl) (by simp only [CA, simprocAttr]; rfl) (by simp only [CA, simprocAttr]; rfl) (by intro hg; (try simp only [BO] at hg); first | exact pc17 _) rfl ?_) | ((with_reducible refine chk_h ?_); refine hr_callG (by simp only [CA, simprocAttr]; rfl) (by simp only [CA, simprocAttr]; rfl) (by simp only [CA, simprocAttr]; rfl) (by intro hg; (try simp only [BO] at hg); first | exact pc17 _) rfl ?_) | ((with_reducible refine chk_h ?_); refine hr_app (by simp (disch := omega) only [g0', c2, RG4, EVA, plug, eq_self, simprocAttr]; with_reducible rfl) rfl ?_) | (with_reducible refine k_condP (by simp only [GA, simprocAttr]; rfl) (by first | (simp only [BO]; rfl) | rfl) (fun ht => ?_) (fun ht => ?_) <;> try (first | exact False.elim ht | exact absurd rfl ht | exact absurd trivial ht | exact Bool.noConfusion ht)) | (with_reducible refine k_ret ?_; repeat with_reducible (first | refine ret_thru ?_ | refine ret_blk ?_ | refine fin ?_)) | (with_reducible refine k_exit ?_; repeat with_reducible (first | refine thru ?_ | refine out_blk ?_ | refine pass (by decide) ?_)) | ((first | refine post1 ?_ | refine post2 ?_ | refine post3 ?_); simp only [GA, simprocAttr]) | refine post0 ?_
    all_goals first | exact ends_of | exact ends_eq rfl
   ·have g0' := eq_false g0
    repeat' first | (with_reducible first | refine k_seq ?_ | refine k_skip ?_ | refine k_blkS ?_ | refine k_blkR ?_ | refine k_blkC ?_ | refine k_blkH ?_ | refine k_blkB ?_ | refine k_blkK ?_ | refine k_blkE ?_ | refine k_reg ?_) | with_reducible refine k_head (by with_unfolding_all rfl) ?_ | with_reducible refine k_headS ?_ | (with_reducible refine SepK.mk ?_ ?_; (refine sepQ_P ?_; simp [sepQ, sepG, AOp.late, AOp.free, AOp.xs, AOp.isAl, tokNe, AV.tok, stS_get, strip, AX.val, RG4, GA]; try omega)) | with_reducible refine r_done ?_ | with_reducible refine hr_done ?_ | with_reducible refine s_go (by simp (disch := omega) only [g0', RG4, EVA, plug, eq_self, simprocAttr]; with_reducible rfl) ?_ | with_reducible refine h_go (by with_unfolding_all rfl) (by simp (disch := omega) only [g0', RG4, EVA, plug, eq_self, simprocAttr]; with_reducible rfl) ?_ | ((with_reducible refine chk_r ?_); refine r_callF (by simp only [CA, simprocAttr]; rfl) (by exact rfl) (by simp only [CA, simprocAttr]; rfl) rfl ?_) | ((with_reducible refine chk_h ?_); refine hr_callF (by simp only [CA, simprocAttr]; rfl) (by exact rfl) (by simp only [CA, simprocAttr]; rfl) rfl ?_) | ((with_reducible refine chk_r ?_); refine r_callP (by simp only [CA, simprocAttr]; rfl) (by simp only [CA, simprocAttr]; rfl) (by first | exact pc17 _) rfl ?_) | ((with_reducible refine chk_h ?_); refine hr_callP (by simp only [CA, simprocAttr]; rfl) (by simp only [CA, simprocAttr]; rfl) (by first | exact pc17 _) rfl ?_) | ((with_reducible refine chk_h ?_); refine hr_callP1 (by simp only [CA, simprocAttr]; rfl) (by simp only [CA, simprocAttr]; rfl) (by simp (disch := omega) only [CA, Nat.reduceEqDiff, ↓reduceIte, firstTok_nil, firstTok_sl, firstTok_sl0, firstTok_i, firstTok_b, firstTok_ag, firstTok_p, firstTok_s]; rfl) (by first | exact pc17 _) rfl ?_) | ((with_reducible refine chk_r ?_); refine r_callG (by simp only [CA, simprocAttr]; rfl) (by simp only [CA, simprocAttr]; rfl) (by simp only [CA, simprocAttr]; rfl) (by intro hg; (try simp only [BO] at hg); first | exact pc17 _) rfl ?_) | ((with_reducible refine chk_h ?_); refine hr_callG (by simp only [CA, simprocAttr]; rfl) (by simp only [CA, simprocAttr]; rfl) (by simp only [CA, simprocAttr]; rfl) (by intro hg; (try simp only [BO] at hg); first | exact pc17 _) rfl ?_) | ((with_reducible refine chk_h ?_); refine hr_app (by simp (disch := omega) only [g0', RG4, EVA, plug, eq_self, simprocAttr]; with_reducible rfl) rfl ?_) | (with_reducible refine k_condP (by simp only [GA, simprocAttr]; rfl) (by first | (simp only [BO]; rfl) | rfl) (fun ht => ?_) (fun ht => ?_) <;> try (first | exact False.elim ht | exact absurd rfl ht | exact absurd trivial ht | exact Bool.noConfusion ht)) | (with_reducible refine k_ret ?_; repeat with_reducible (first | refine ret_thru ?_ | refine ret_blk ?_ | refine fin ?_)) | (with_reducible refine k_exit ?_; repeat with_reducible (first | refine thru ?_ | refine out_blk ?_ | refine pass (by decide) ?_)) | ((first | refine post1 ?_ | refine post2 ?_ | refine post3 ?_); simp only [GA, simprocAttr]) | refine post0 ?_
    all_goals first | exact ends_of | exact ends_eq rfl
  ·have f0' := eq_false f0
   repeat' first | (with_reducible first | refine k_seq ?_ | refine k_skip ?_ | refine k_blkS ?_ | refine k_blkR ?_ | refine k_blkC ?_ | refine k_blkH ?_ | refine k_blkB ?_ | refine k_blkK ?_ | refine k_blkE ?_ | refine k_reg ?_) | with_reducible refine r_done ?_ | with_reducible refine s_go (by simp (disch := omega) only [f0', f32, RG4, EVA, plug, eq_self, simprocAttr]; with_reducible rfl) ?_ | ((with_reducible refine chk_r ?_); refine r_callF (by simp only [CA, simprocAttr]; rfl) (by exact rfl) (by simp only [CA, simprocAttr]; rfl) rfl ?_) | (with_reducible refine k_condP (by simp only [GA, simprocAttr]; rfl) (by first | (simp only [BO]; rfl) | rfl) (fun ht => ?_) (fun ht => ?_) <;> try (first | exact False.elim ht | exact absurd rfl ht | exact absurd trivial ht | exact Bool.noConfusion ht)) | (with_reducible refine k_ret ?_; repeat with_reducible (first | refine ret_thru ?_ | refine ret_blk ?_ | refine fin ?_)) | (with_reducible refine k_exit ?_; repeat with_reducible (first | refine thru ?_ | refine out_blk ?_ | refine pass (by decide) ?_)) | ((first | refine post1 ?_ | refine post2 ?_ | refine post3 ?_); simp only [GA, simprocAttr]) | refine post0 ?_
   refine w_hp (fun h => h.m 2 = some (.cells true (eH x))) (by simp (disch := omega) only [a1, a2, a3, m2, RG4, EVA, plug, eq_self, simprocAttr] <;> rfl) fun hq n2 ok2 pos2 => ?_
   refine k_headP [3, 6, 7] [1, 5] rfl (fun p i h1 h2 h3 h4 h5 => ?_) ?_
   ·simp only [List.contains_cons, List.contains_nil, Bool.or_false, Bool.or_eq_true, beq_iff_eq] at h3 h4
    rcases h3 with rfl | rfl | rfl <;> rcases h4 with rfl | rfl | rfl <;> first | omega | exact ⟨_, _, rfl, rfl, rfl⟩ | (have := h5 6 (by omega) (by omega); cases this)
   simp only [c4r7, List.take_succ_cons, List.take_zero, List.drop_succ_cons, List.drop_zero, List.length_cons, List.length_nil, Nat.reduceAdd]
   refine lp_val rfl rfl (by simp (disch := omega) only [eZ_rd, eH_rd, n2, row_m n2, read_row (row_m n2), RG4, EVA, plug, eq_self, simprocAttr]; with_reducible rfl) ?_
   refine lp_lit (v := .sl 0 0 0 6) rfl (by decide) rfl (by decide) rfl rfl ?_
   refine lp_val rfl rfl (by simp (disch := omega) only [eZ_rd, eH_rd, n2, row_m n2, read_row (row_m n2), RG4, EVA, plug, eq_self, simprocAttr]; with_reducible rfl) ?_
   refine lp_app rfl (by simp (disch := omega) only [fh, oh, RG4, EVA, plug, eq_self, simprocAttr] <;> rfl) (fun t c ht => by
    have lt := ok2.m ht
    have e3 : ¬ t = hq.nx + 3 := by omega
    simp (disch := omega) only [e3, ht, RG4, EVA, plug, eq_self, simprocAttr]) (fun e he => by
    have n1 : hq.m (hq.nx + e) = none := by
     cases q : hq.m (hq.nx + e) with
     | none => rfl
     | some c => have := ok2.m q; omega
    simp only [List.mem_cons, List.not_mem_nil, or_false] at he
    have e3 : ¬ hq.nx + e = hq.nx + 3 := by omega
    simp (disch := omega) only [e3, n1, RG4, EVA, plug, eq_self, simprocAttr]) ?_
   refine lp_val rfl rfl (by simp (disch := omega) only [eZ_rd, eH_rd, n2, row_m n2, read_row (row_m n2), RG4, EVA, plug, eq_self, simprocAttr]; with_reducible rfl) ?_
   refine lp_lit (v := .vs 1 (eH x)) (cs := eH x) rfl (by decide) (by simp (disch := omega) only [RG4, EVA, plug, eq_self, simprocAttr] <;> rfl) (by decide) rfl rfl ?_
   refine lp_app rfl (by simp (disch := omega) only [fh, oh, List.length_append, RG4, EVA, plug, eq_self, simprocAttr] <;> rfl) (fun t c ht => by
    have lt := ok2.m ht
    have e3 : ¬ t = hq.nx + 3 := by omega
    have e6 : ¬ t = hq.nx + 6 := by omega
    simp (disch := omega) only [e3, e6, ht, RG4, EVA, plug, eq_self, simprocAttr]) (fun e he => by
    have n1 : hq.m (hq.nx + e) = none := by
     cases q : hq.m (hq.nx + e) with
     | none => rfl
     | some c => have := ok2.m q; omega
    simp only [List.mem_cons, List.not_mem_nil, or_false] at he
    have e3 : ¬ hq.nx + e = hq.nx + 3 := by omega
    have e6 : ¬ hq.nx + e = hq.nx + 6 := by omega
    simp (disch := omega) only [e3, e6, n1, RG4, EVA, plug, eq_self, simprocAttr]) ?_
   refine lp_new rfl (by simp only [CA, simprocAttr]; rfl) (by simp only [CA, simprocAttr]; rfl) (q3 _ _ _ (by simp (disch := omega) only [RG4, EVA, plug, eq_self, simprocAttr] <;> rfl)) (fun t c ht => by
    have lt := ok2.m ht
    have e3 : ¬ t = hq.nx + 3 := by omega
    have e6 : ¬ t = hq.nx + 6 := by omega
    have e7 : ¬ t = hq.nx + 7 := by omega
    simp (disch := omega) only [e3, e6, e7, ht, RG4, EVA, plug, eq_self, simprocAttr]) (fun e he => by
    have n1 : hq.m (hq.nx + e) = none := by
     cases q : hq.m (hq.nx + e) with
     | none => rfl
     | some c => have := ok2.m q; omega
    simp only [List.mem_cons, List.not_mem_nil, or_false] at he
    have e3 : ¬ hq.nx + e = hq.nx + 3 := by omega
    have e6 : ¬ hq.nx + e = hq.nx + 6 := by omega
    have e7 : ¬ hq.nx + e = hq.nx + 7 := by omega
    simp (disch := omega) only [e3, e6, e7, n1, RG4, EVA, plug, eq_self, simprocAttr]) ?_
   refine lp_val rfl rfl (by simp (disch := omega) only [eZ_rd, eH_rd, n2, row_m n2, read_row (row_m n2), RG4, EVA, plug, eq_self, simprocAttr]; with_reducible rfl) ?_
   refine lp_val rfl rfl (by simp (disch := omega) only [eZ_rd, eH_rd, n2, row_m n2, read_row (row_m n2), RG4, EVA, plug, eq_self, simprocAttr]; with_reducible rfl) ?_
   refine lp_val rfl rfl (by simp (disch := omega) only [eZ_rd, eH_rd, n2, row_m n2, read_row (row_m n2), RG4, EVA, plug, eq_self, simprocAttr]; with_reducible rfl) ?_
   refine lp_val rfl rfl (by simp (disch := omega) only [eZ_rd, eH_rd, n2, row_m n2, read_row (row_m n2), RG4, EVA, plug, eq_self, simprocAttr]; with_reducible rfl) ?_
   refine lp_done ?_
   refine s_go (by simp (disch := omega) only [RG4, EVA, plug, eq_self, simprocAttr]; with_reducible rfl) ?_
   refine r_done ?_
   by_cases g0 : g = 0
   ·have g0' := eq_true g0
    have c2 := eq_true (show (a.length : Int) ≤ c.length by have := M2 g0; omega)
    repeat' first | (with_reducible first | refine k_seq ?_ | refine k_skip ?_ | refine k_blkS ?_ | refine k_blkR ?_ | refine k_blkC ?_ | refine k_blkH ?_ | refine k_blkB ?_ | refine k_blkK ?_ | refine k_blkE ?_ | refine k_reg ?_) | with_reducible refine k_head (by with_unfolding_all rfl) ?_ | with_reducible refine k_headS ?_ | (with_reducible refine SepK.mk ?_ ?_; (refine sepQ_P ?_; simp [sepQ, sepG, AOp.late, AOp.free, AOp.xs, AOp.isAl, tokNe, AV.tok, stS_get, strip, AX.val, RG4, GA]; try omega)) | with_reducible refine r_done ?_ | with_reducible refine hr_done ?_ | with_reducible refine s_go (by simp (disch := omega) only [g0', c2, RG4, EVA, plug, eq_self, simprocAttr]; with_reducible rfl) ?_ | with_reducible refine h_go (by with_unfolding_all rfl) (by simp (disch := omega) only [g0', c2, RG4, EVA, plug, eq_self, simprocAttr]; with_reducible rfl) ?_ | ((with_reducible refine chk_r ?_); refine r_callF (by simp only [CA, simprocAttr]; rfl) (by exact rfl) (by simp only [CA, simprocAttr]; rfl) rfl ?_) | ((with_reducible refine chk_h ?_); refine hr_callF (by simp only [CA, simprocAttr]; rfl) (by exact rfl) (by simp only [CA, simprocAttr]; rfl) rfl ?_) | ((with_reducible refine chk_r ?_); refine r_callP (by simp only [CA, simprocAttr]; rfl) (by simp only [CA, simprocAttr]; rfl) (by first | exact pc17 _) rfl ?_) | ((with_reducible refine chk_h ?_); refine hr_callP (by simp only [CA, simprocAttr]; rfl) (by simp only [CA, simprocAttr]; rfl) (by first | exact pc17 _) rfl ?_) | ((with_reducible refine chk_h ?_); refine hr_callP1 (by simp only [CA, simprocAttr]; rfl) (by simp only [CA, simprocAttr]; rfl) (by simp (disch := omega) only [CA, Nat.reduceEqDiff, ↓reduceIte, firstTok_nil, firstTok_sl, firstTok_sl0, firstTok_i, firstTok_b, firstTok_ag, firstTok_p, firstTok_s]; rfl) (by first | exact pc17 _) rfl ?_) | ((with_reducible refine chk_r ?_); refine r_callG (by simp only [CA, simprocAttr]; rfl) (by simp only [CA, simprocAttr]; rfl) (by simp only [CA, simprocAttr]; rfl) (by intro hg; (try simp only [BO] at hg); first | exact pc17 _) rfl ?_) | ((with_reducible refine chk_h ?_); refine hr_callG (by simp only [CA, simprocAttr]; rfl) (by simp only [CA, simprocAttr]; rfl) (by simp only [CA, simprocAttr]; rfl) (by intro hg; (try simp only [BO] at hg); first | exact pc17 _) rfl ?_) | ((with_reducible refine chk_h ?_); refine hr_app (by simp (disch := omega) only [g0', c2, RG4, EVA, plug, eq_self, simprocAttr]; with_reducible rfl) rfl ?_) | (with_reducible refine k_condP (by simp only [GA, simprocAttr]; rfl) (by first | (simp only [BO]; rfl) | rfl) (fun ht => ?_) (fun ht => ?_) <;> try (first | exact False.elim ht | exact absurd rfl ht | exact absurd trivial ht | exact Bool.noConfusion ht)) | (with_reducible refine k_ret ?_; repeat with_reducible (first | refine ret_thru ?_ | refine ret_blk ?_ | refine fin ?_)) | (with_reducible refine k_exit ?_; repeat with_reducible (first | refine thru ?_ | refine out_blk ?_ | refine pass (by decide) ?_)) | ((first | refine post1 ?_ | refine post2 ?_ | refine post3 ?_); simp only [GA, simprocAttr]) | refine post0 ?_
    all_goals first | exact ends_of | exact ends_eq rfl
   ·have g0' := eq_false g0
    repeat' first | (with_reducible first | refine k_seq ?_ | refine k_skip ?_ | refine k_blkS ?_ | refine k_blkR ?_ | refine k_blkC ?_ | refine k_blkH ?_ | refine k_blkB ?_ | refine k_blkK ?_ | refine k_blkE ?_ | refine k_reg ?_) | with_reducible refine k_head (by with_unfolding_all rfl) ?_ | with_reducible refine k_headS ?_ | (with_reducible refine SepK.mk ?_ ?_; (refine sepQ_P ?_; simp [sepQ, sepG, AOp.late, AOp.free, AOp.xs, AOp.isAl, tokNe, AV.tok, stS_get, strip, AX.val, RG4, GA]; try omega)) | with_reducible refine r_done ?_ | with_reducible refine hr_done ?_ | with_reducible refine s_go (by simp (disch := omega) only [g0', RG4, EVA, plug, eq_self, simprocAttr]; with_reducible rfl) ?_ | with_reducible refine h_go (by with_unfolding_all rfl) (by simp (disch := omega) only [g0', RG4, EVA, plug, eq_self, simprocAttr]; with_reducible rfl) ?_ | ((with_reducible refine chk_r ?_); refine r_callF (by simp only [CA, simprocAttr]; rfl) (by exact rfl) (by simp only [CA, simprocAttr]; rfl) rfl ?_) | ((with_reducible refine chk_h ?_); refine hr_callF (by simp only [CA, simprocAttr]; rfl) (by exact rfl) (by simp only [CA, simprocAttr]; rfl) rfl ?_) | ((with_reducible refine chk_r ?_); refine r_callP (by simp only [CA, simprocAttr]; rfl) (by simp only [CA, simprocAttr]; rfl) (by first | exact pc17 _) rfl ?_) | ((with_reducible refine chk_h ?_); refine hr_callP (by simp only [CA, simprocAttr]; rfl) (by simp only [CA, simprocAttr]; rfl) (by first | exact pc17 _) rfl ?_) | ((with_reducible refine chk_h ?_); refine hr_callP1 (by simp only [CA, simprocAttr]; rfl) (by simp only [CA, simprocAttr]; rfl) (by simp (disch := omega) only [CA, Nat.reduceEqDiff, ↓reduceIte, firstTok_nil, firstTok_sl, firstTok_sl0, firstTok_i, firstTok_b, firstTok_ag, firstTok_p, firstTok_s]; rfl) (by first | exact pc17 _) rfl ?_) | ((with_reducible refine chk_r ?_); refine r_callG (by simp only [CA, simprocAttr]; rfl) (by simp only [CA, simprocAttr]; rfl) (by simp only [CA, simprocAttr]; rfl) (by intro hg; (try simp only [BO] at hg); first | exact pc17 _) rfl ?_) | ((with_reducible refine chk_h ?_); refine hr_callG (by simp only [CA, simprocAttr]; rfl) (by simp only [CA, simprocAttr]; rfl) (by simp only [CA, simprocAttr]; rfl) (by intro hg; (try simp only [BO] at hg); first | exact pc17 _) rfl ?_) | ((with_reducible refine chk_h ?_); refine hr_app (by simp (disch := omega) only [g0', RG4, EVA, plug, eq_self, simprocAttr]; with_reducible rfl) rfl ?_) | (with_reducible refine k_condP (by simp only [GA, simprocAttr]; rfl) (by first | (simp only [BO]; rfl) | rfl) (fun ht => ?_) (fun ht => ?_) <;> try (first | exact False.elim ht | exact absurd rfl ht | exact absurd trivial ht | exact Bool.noConfusion ht)) | (with_reducible refine k_ret ?_; repeat with_reducible (first | refine ret_thru ?_ | refine ret_blk ?_ | refine fin ?_)) | (with_reducible refine k_exit ?_; repeat with_reducible (first | refine thru ?_ | refine out_blk ?_ | refine pass (by decide) ?_)) | ((first | refine post1 ?_ | refine post2 ?_ | refine post3 ?_); simp only [GA, simprocAttr]) | refine post0 ?_
    all_goals first | exact ends_of | exact ends_eq rfl
 ·have e0' := eq_false e0
  refine pc_fn fn4 (by simp only [AV.plains, AV.plain, il_plain, bl_plain, Bool.and_true, Bool.true_and, Bool.and_self, fleZ_plain, fleH_plain]) (by simp only [AV.plains, AV.plain, il_plain, bl_plain, Bool.and_true, Bool.true_and, Bool.and_self, fleZ_plain, fleH_plain]) (Nat.le_of_ble_eq_true rfl) ?_
  rw [initSt4]
  generalize (cvrR l m).1 = a at *
  generalize (cvrR l m).2 = e at *
  repeat' first | (with_reducible first | refine k_seq ?_ | refine k_skip ?_ | refine k_blkS ?_ | refine k_blkR ?_ | refine k_blkC ?_ | refine k_blkH ?_ | refine k_blkB ?_ | refine k_blkK ?_ | refine k_blkE ?_ | refine k_reg ?_) | with_reducible refine k_head (by with_unfolding_all rfl) ?_ | with_reducible refine k_headS ?_ | (with_reducible refine SepK.mk ?_ ?_; (refine sepQ_P ?_; simp [sepQ, sepG, AOp.late, AOp.free, AOp.xs, AOp.isAl, tokNe, AV.tok, stS_get, strip, AX.val, RG4, GA]; try omega)) | with_reducible refine r_done ?_ | with_reducible refine hr_done ?_ | with_reducible refine s_go (by simp (disch := omega) only [eZ_rd, eH_rd, e0', RG4, EVA, plug, eq_self, simprocAttr]; with_reducible rfl) ?_ | with_reducible refine h_go (by with_unfolding_all rfl) (by simp (disch := omega) only [eZ_rd, eH_rd, e0', RG4, EVA, plug, eq_self, simprocAttr]; with_reducible rfl) ?_ | ((with_reducible refine chk_r ?_); refine r_callF (by simp only [CA, simprocAttr]; rfl) (by exact rfl) (by simp only [CA, simprocAttr]; rfl) rfl ?_) | ((with_reducible refine chk_h ?_); refine hr_callF (by simp only [CA, simprocAttr]; rfl) (by exact rfl) (by simp only [CA, simprocAttr]; rfl) rfl ?_) | ((with_reducible refine chk_r ?_); refine r_callP (by simp only [CA, simprocAttr]; rfl) (by simp only [CA, simprocAttr]; rfl) (by first | exact q1 _ | exact pc17 _) rfl ?_) | ((with_reducible refine chk_h ?_); refine hr_callP (by simp only [CA, simprocAttr]; rfl) (by simp only [CA, simprocAttr]; rfl) (by first | exact q1 _ | exact pc17 _) rfl ?_) | ((with_reducible refine chk_h ?_); refine hr_callP1 (by simp only [CA, simprocAttr]; rfl) (by simp only [CA, simprocAttr]; rfl) (by simp (disch := omega) only [CA, Nat.reduceEqDiff, ↓reduceIte, firstTok_nil, firstTok_sl, firstTok_sl0, firstTok_i, firstTok_b, firstTok_ag, firstTok_p, firstTok_s]; rfl) (by first | exact q1 _ | exact pc17 _) rfl ?_) | ((with_reducible refine chk_r ?_); refine r_callG (by simp only [CA, simprocAttr]; rfl) (by simp only [CA, simprocAttr]; rfl) (by simp only [CA, simprocAttr]; rfl) (by intro hg; (try simp only [BO] at hg); first | exact q1 _ | exact pc17 _) rfl ?_) | ((with_reducible refine chk_h ?_); refine hr_callG (by simp only [CA, simprocAttr]; rfl) (by simp only [CA, simprocAttr]; rfl) (by simp only [CA, simprocAttr]; rfl) (by intro hg; (try simp only [BO] at hg); first | exact q1 _ | exact pc17 _) rfl ?_) | ((with_reducible refine chk_h ?_); refine hr_app (by simp (disch := omega) only [eZ_rd, eH_rd, e0', RG4, EVA, plug, eq_self, simprocAttr]; with_reducible rfl) rfl ?_) | (with_reducible refine k_condP (by simp only [GA, simprocAttr]; rfl) (by first | (simp only [BO]; rfl) | rfl) (fun ht => ?_) (fun ht => ?_) <;> try (first | exact False.elim ht | exact absurd rfl ht | exact absurd trivial ht | exact Bool.noConfusion ht)) | (with_reducible refine k_ret ?_; repeat with_reducible (first | refine ret_thru ?_ | refine ret_blk ?_ | refine fin ?_)) | (with_reducible refine k_exit ?_; repeat with_reducible (first | refine thru ?_ | refine out_blk ?_ | refine pass (by decide) ?_)) | ((first | refine post1 ?_ | refine post2 ?_ | refine post3 ?_); simp only [GA, simprocAttr]) | refine post0 ?_
  all_goals first | exact ends_of | exact ends_eq rfl
theorem d4' (l : List Sz) (hl : l.length ≤ 9223372036854775807) (m : List Hd) (hm : m.length ≤ 9223372036854775807) (s : Sz) (x : Hd) : PC Tryd.prog 4 [.vs l.length (fl eZ l), .vs m.length (fl eH m), .ag (eZ s), .ag (eH x)] (.b true) := d4 l m s x hl hm
end Go.Proofs.YtjaihaccehaicaaDoor
set_option linter.unusedVariables false
set_option linter.unusedSimpArgs false
namespace Go.Proofs.YtjaihaccehaicaaDoor
open Go Go.Am Go.Proofs
theorem mapM_get {α β : Type} {f : α → Option β} : ∀ {xs : List α} {ys : List β}, xs.mapM f = some ys → ∀ (i : Nat) x, xs[i]? = some x → ∃ y, f x = some y ∧ ys[i]? = some y
 | [], ys, h, i, x, hx => by simp at hx
 | a :: xs, ys, h, i, x, hx => by
   simp only [List.mapM_cons, Option.pure_def, Option.bind_eq_bind, Option.bind_eq_some_iff, Option.some.injEq] at h
   obtain ⟨y, hy, zs, hz, rfl⟩ := h
   cases i with
   | zero => simp at hx; subst hx; exact ⟨y, hy, rfl⟩
   | succ i => simp at hx; exact mapM_get hz i x hx
theorem int_of_trod {H : Type} {enc : TypeId × Value → H} {P : Program} {w : World} {base : Nat} {sp : Nat → Bool} {held : Bool} {fuel : Nat} {t : TypeId} {k : IntKind} {c : Value} {y : DataW H × List MemPlace}
 (ht : P.underlying t = some (.int k)) (h : DataW.trod enc P w base sp held fuel t [c] = some y) : ∃ n, c = .int k n ∧ y = (.lit (.int k n), []) := by
 cases fuel with
 | zero => simp [DataW.trod] at h
 | succ fuel =>
   cases c <;> simp [DataW.trod, ht] at h
   rename_i k' n
   obtain ⟨⟨rfl, _⟩, rfl⟩ := h
   exact ⟨n, rfl, rfl⟩
def litOf : Value → DataW Unit
 | .int k n => .lit (.int k n)
 | _ => .nil
theorem laid_lits : (Rows.laid_math_bits_deBruijn64tab : DataW Unit) = .agg (TABV.toList.map litOf) := rfl
theorem tabv_u8 : ∀ v ∈ TABV.toList, ∃ n, v = .int .u8 n := by
 intro v hv
 simp only [TABV, List.mem_cons, List.not_mem_nil, or_false] at hv
 rcases hv with rfl | hv
 ·exact ⟨_, rfl⟩
 repeat (rcases hv with rfl | hv; exact ⟨_, rfl⟩)
theorem g0 : Tryd.prog.globalNamed "math/bits.deBruijn64tab" = some 0 := by kernel_rfl
theorem gT : (Tryd.prog.globals[0]?).map (·.type) = some 106 := by kernel_rfl
theorem cells106 : Tryd.prog.cellsOf 106 = 64 := by kernel_rfl
theorem cells5 : Tryd.prog.cellsOf 5 = 1 := by kernel_rfl
theorem tab_of_laid {W : World} (h : laidMet Tryd.prog Rows.lastListsRow.laid W) : TabOK (φW W) := by
 obtain ⟨ps, ⟨g, t, cs, fuel, p, q, hg, ht, hvar, hd, _, _⟩, _⟩ := h
 obtain rfl := Option.some.inj (g0.symm.trans hg)
 obtain rfl := Option.some.inj (gT.symm.trans ht)
 have hcs : cs = TABV := by
  cases fuel with
  | zero => simp [DataW.trod] at hd
  | succ fuel =>
    simp only [DataW.trod, Tryd.underlying106, cells106, cells5] at hd
    split at hd
    ·rename_i hl
     simp only [Option.map_eq_some_iff] at hd
     obtain ⟨xs, hx, he⟩ := hd
     rw [laid_lits] at he
     have he := (Prod.mk.inj he).1
     simp only [DataW.agg.injEq] at he
     have hl' : cs.toList.length = 64 := by simpa using hl
     refine Array.toList_inj.1 (List.ext_getElem? fun i => ?_)
     by_cases hi : i < 64
     ·have hi' : i < cs.toList.length := by omega
      obtain ⟨y, hy, hyi⟩ := mapM_get hx i i (by rw [List.getElem?_range hi])
      have e1 : (cs.toList.drop (i * 1)).take 1 = [cs.toList[i]] := by
       rw [Nat.mul_one, List.drop_eq_getElem_cons hi', List.take_succ_cons, List.take_zero]
      rw [e1] at hy
      obtain ⟨n, hn, rfl⟩ := int_of_trod Tryd.underlying5 hy
      have ti : i < TABV.toList.length := hi
      have e2 := congrArg (fun l => l[i]?) he
      simp only [List.getElem?_map, hyi, Option.map_some, List.getElem?_eq_getElem ti, Option.some.injEq] at e2
      obtain ⟨m, hm⟩ := tabv_u8 _ (List.getElem_mem ti)
      rw [List.getElem?_eq_getElem hi', List.getElem?_eq_getElem ti, hn, hm]
      rw [hm] at e2
      simp only [litOf, DataW.lit.injEq, Lit.int.injEq, true_and] at e2
      rw [e2]
     ·rw [List.getElem?_eq_none (by omega), List.getElem?_eq_none (show TABV.toList.length ≤ i from Nat.le_of_not_lt hi)]
    ·cases hd
 intro b xs hb
 unfold TAB at hb
 split at hb
 ·rename_i e
  subst e
  cases hb
  unfold World.var? at hvar
  rw [g0] at hvar
  simp only [Option.bind_some] at hvar
  unfold φW
  split at hvar
  ·rename_i ys e fz hh
   cases hvar
   rw [hh, hcs]
  ·cases hvar
 ·cases hb
noncomputable def tabWorld (os : Os) : World :=
 let w0 := World.holding Tryd.prog os ⟨#[], #[], []⟩
 { w0 with heap := w0.heap.modify 0 fun
  | .cells _ t frozen => .cells TABV t frozen
  | o => o }
set_option maxRecDepth 100000 in
theorem laid_met (os : Os) (args : Array Value) : laidMet Tryd.prog Rows.lastListsRow.laid ((tabWorld os).forCall (fun _ _ => 0) ⟨#[], args, []⟩).memory :=
 laidMet_of_run (ps := (List.range 64).map fun i => .cell 0 i) 8 (by kernel_rfl) (by kernel_rfl) (by kernel_rfl)
end Go.Proofs.YtjaihaccehaicaaDoor
