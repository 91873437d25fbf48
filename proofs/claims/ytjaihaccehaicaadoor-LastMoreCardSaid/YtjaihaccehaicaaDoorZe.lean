/- What the proof of the law needs: the abstract machine, the functions as it reads them, their contracts, part 5. -/
import Derived.Test.YtjaihaccehaicaaDoorZd
set_option linter.unusedVariables false
set_option linter.unusedSimpArgs false
namespace Go.Am
open Go.Proofs Go.Shelf Go.Sort
section
variable {P : Program} {ρ : Ren}
set_option maxHeartbeats 1000000 in
theorem reverse_int (L : SlLaysN.n35 P ρ) {h : AH} {t a : Nat} {d : List Int} (hm : h.m t = some (.cells true (d.map (AV.i .i64)))) (hlen : d.length < 4611686018427387904) :
 ACalls P (ρ.f 35) [.sl t 0 d.length a] h fun r h' => r = .tu [] ∧ h' = h.set t (.cells true ((d.reverse).map (AV.i .i64))) := by
 have hE := (⟨fun ι x v => by simp only [VRel], fun x => rfl, fun x => rfl⟩ : Enc1 (AV.i .i64) (Value.int .i64))
 refine ⟨?_, fun ι w vs wr hv => ?_⟩
 ·obtain ⟨nm, hn, hf⟩ := L.f35
  exact ⟨_, hf, hn, rfl⟩
 simp only [VRels] at hv
 obtain ⟨sv, r1, ev, hs, rfl⟩ := hv
 obtain rfl : vs = #[sv] := by cases vs; simp_all
 by_cases hd0 : d = []
 ·subst hd0
  have hslice : ∃ p cap, sv = .slice p 0 cap := by
   simp only [VRel] at hs
   rcases hs with ⟨_, x, rfl⟩ | ⟨l, cap, _, rfl, _⟩
   ·exact ⟨_, _, rfl⟩
   ·exact ⟨_, _, rfl⟩
  obtain ⟨p, cap, rfl⟩ := hslice
  refine Calls.mono (AnyG.slices_Reverse_int_empty (P := P) (ρ := ρ) L p cap w) fun e w' ⟨he, hw⟩ => ?_
  subst hw
  have e0 : (([] : List Int).reverse.map (AV.i .i64)) = [] := by simp
  rw [e0]
  have es : h.set t (.cells true []) = h := set_self hm
  exact ⟨.tuple #[], .tu [], _, ι, he, ⟨rfl, rfl⟩, by simp only [VRel]; exact ⟨#[], rfl, by simp [VRels]⟩, by rw [es]; exact wr, by rw [es]; exact .refl _ _ _⟩
 have hdl : d.length ≠ 0 := fun e => hd0 (List.length_eq_zero_iff.1 e)
 simp only [VRel] at hs
 rcases hs with ⟨h0, _⟩ | ⟨l, cap, hl, rfl, hcap, _⟩
 ·exact absurd h0 hdl
 have hb := (wr.blk t _ hm).2
 simp only [BRel] at hb
 rcases hb with ⟨he, _⟩ | ⟨l', vs, e, fz, hl', hh, h3, h4, h5, h6⟩
 ·exact absurd (by simpa using he) hd0
 rw [hl] at hl'; cases hl'
 have hfz := h5 trivial
 subst hfz
 simp only [Nat.add_zero]
 have hcell : ∀ j, j < d.length → ∃ x, d[j]? = some x ∧ vs[l.sh + j]? = some ((Value.int .i64) x) := fun j hj => by
  obtain ⟨u, hu, hr⟩ := h6 j (AV.i .i64 d[j]) (by simp [hj])
  rw [hE.rel] at hr
  subst hr
  exact ⟨d[j], by simp [hj], hu⟩
 have hH : Holds (Value.int .i64) w l.b l.sh d.toArray := fun j hj => by
  obtain ⟨x, hx, hc⟩ := hcell j (by simpa using hj)
  refine ⟨?_, ?_⟩
  ·simp only [World.cell?, hh]
   rw [if_neg (by simp), hc]
   have : d.toArray[j]! = x := by simp [getElem!_def, hx]
   rw [this]
  ·simp [World.frozen?, hh]
 have hblk : l.b < w.heap.size := (wr.lt t l hl).2
 refine Calls.mono (AnyG.slices_Reverse_int L l.b l.sh cap d w hH (by omega)) fun e' w' he => ?_
 obtain ⟨he, n, hw0⟩ := he
 have hw : w' = sortWorld (Value.int .i64) w l.b l.sh n d.reverse.toArray #[] := by rw [hw0]; exact (grow_empty _).symm
 generalize hsd : (d.reverse) = d' at hw ⊢
 have hlen' : d'.length = d.length := by rw [← hsd]; exact List.length_reverse
 obtain ⟨p1, p2, p3⟩ := putRow_heap (Value.int .i64) w l.b l.sh n d'.toArray #[] hh
 rw [← hw] at p1 p2 p3
 have hbr : BRel ι w' t (.cells true (d'.map (AV.i .i64))) := by
  simp only [BRel]
  refine .inr ⟨l, _, e, _, hl, p1, by simp [putCells, h3], by simpa [hlen'] using h4, fun _ => rfl, fun i a ha => ?_⟩
  simp only [List.getElem?_map, Option.map_eq_some_iff] at ha
  obtain ⟨x, hx, rfl⟩ := ha
  have hi : i < d'.length := (List.getElem?_eq_some_iff.1 hx).1
  obtain ⟨_, _, hc⟩ := hcell i (by omega)
  refine ⟨Value.int .i64 x, ?_, (hE.rel _ _ _).2 rfl⟩
  simp only [putCells, Array.getElem?_mapIdx, hc, Option.map_some]
  rw [if_pos ⟨by omega, by simp; omega⟩]
  have : d'.toArray[l.sh + i - l.sh]! = x := by simp [getElem!_def, hx]
  rw [this]
 -- the step within the old blocks, then the new ones
 let w1 : World := { w with heap := w.heap.modify l.b (onCells (putCells (Value.int .i64) l.sh d'.toArray)) }
 have k1 : w1.heap.size = w.heap.size := by simp [w1]
 have k2 : ∀ b, b ≠ l.b → w1.heap[b]? = w.heap[b]? := fun b hb => by simp [w1, Array.getElem?_modify, Ne.symm hb]
 have k3 : ∀ b, b < w1.heap.size → w'.heap[b]? = w1.heap[b]? := fun b hb => by
  rw [k1] at hb
  by_cases e' : b = l.b
  ·subst e'
   rw [p1]
   simp only [w1, Array.getElem?_modify, if_pos, hh]; rfl
  ·rw [p2 b hb e', k2 b e']
 have k4 : w1.heap.size ≤ w'.heap.size := by rw [k1]; exact p3
 have hbr1 : BRel ι w1 t (.cells true (d'.map (AV.i .i64))) := hbr.mono (Inj.le_refl _) rfl fun l2 hl2 => by
  rw [hl] at hl2; cases hl2
  rw [k3 l.b (by rw [k1]; exact hblk)]
 have wr1 := wr.refit hm rfl hl k1 k2 hbr1
 have ex1 := (Ext.refl ι h w).refit (bk := .cells true (d'.map (AV.i .i64))) hm rfl hl k1 k2 (Nat.le_refl _) rfl rfl rfl
 have o1 : w'.os = w1.os := by rw [hw]; rfl
 have o2 : w'.tape = w1.tape := by rw [hw]; rfl
 have o3 : w'.output = w1.output := by rw [hw]; rfl
 have o4 : w1.drawn ≤ w'.drawn := by rw [hw]; show w.drawn ≤ w.drawn + n; omega
 exact ⟨.tuple #[], .tu [], _, ι, he, ⟨rfl, rfl⟩, by simp only [VRel]; exact ⟨#[], rfl, by simp [VRels]⟩, wr1.grown k4 k3, ex1.grown o1 o2 o3 k4 k3 o4⟩
end
end Go.Am
set_option linter.unusedVariables false
set_option linter.unusedSimpArgs false
namespace Go.Proofs.YtjaihaccehaicaaDoor
open Go Go.Am Go.Proofs
theorem pc32 (l : List Int) : PC Tryd.prog 73 [vi l] (.fn 86 [] [.pv [vi l] 0]) := by
 refine pc_fn fn73 (by simp only [AV.plains, AV.plain, il_plain, bl_plain, Bool.and_true, Bool.true_and, Bool.and_self, il_plain]) (by simp only [AV.plains, AV.plain, il_plain, bl_plain, Bool.and_true, Bool.true_and, Bool.and_self, il_plain]) (Nat.le_of_ble_eq_true rfl) ?_
 rw [initSt1]
 repeat' first | (with_reducible first | refine k_seq ?_ | refine k_skip ?_ | refine k_blkS ?_ | refine k_blkR ?_ | refine k_blkC ?_ | refine k_blkH ?_ | refine k_blkB ?_ | refine k_blkK ?_ | refine k_blkE ?_ | refine k_reg ?_) | with_reducible refine r_done ?_ | with_reducible refine s_go (by simp (disch := omega) only [c73r0, c73r1, EVA, plug, eq_self, simprocAttr]; with_reducible rfl) ?_ | ((with_reducible refine chk_r ?_); refine r_callF (by simp only [CA, simprocAttr]; rfl) (by exact rfl) (by simp only [CA, simprocAttr]; rfl) rfl ?_) | (with_reducible refine k_condP (by simp only [GA, simprocAttr]; rfl) (by first | (simp only [BO]; rfl) | rfl) (fun ht => ?_) (fun ht => ?_) <;> try (first | exact False.elim ht | exact absurd rfl ht | exact absurd trivial ht | exact Bool.noConfusion ht)) | (with_reducible refine k_ret ?_; repeat with_reducible (first | refine ret_thru ?_ | refine ret_blk ?_ | refine fin ?_)) | (with_reducible refine k_exit ?_; repeat with_reducible (first | refine thru ?_ | refine out_blk ?_ | refine pass (by decide) ?_)) | ((first | refine post1 ?_ | refine post2 ?_ | refine post3 ?_); simp only [GA, simprocAttr]) | refine post0 ?_
 exact ⟨_, .step (t := 1) (cs := [vi l]) (by simp (disch := omega) only [c73r0, c73r1, EVA, plug, eq_self, simprocAttr] <;> rfl) (FrzH.kill _ _ _) (.fn .nil (.cons .p .nil)) .done⟩
def stabF (w : Int) (out : List Int) (v : Int) : List Int := if out.length = 0 ∨ v < out.getD (out.length - 1) 0 then out ++ [v - w] else out
def stabL (l : List Int) (w : Int) (k : Nat) : List Int := ((srtZ l).reverse.take k).foldl (stabF w) []
def stabR (l : List Int) (w : Int) : List Int × Int := if (valR l w).2 ≠ 0 then ([], (valR l w).2) else ((stabL l w l.length).reverse, 0)
theorem stabF_len (w : Int) (out : List Int) (v : Int) : (stabF w out v).length ≤ out.length + 1 := by
 unfold stabF
 split
 ·simp
 ·omega
theorem stabL_succ {l : List Int} {w : Int} {k : Nat} (h : k < l.length) : stabL l w (k + 1) = stabF w (stabL l w k) ((srtZ l).getD (l.length - 1 - k) 0) := by
 unfold stabL
 have hk : k < (srtZ l).reverse.length := by rw [List.length_reverse, srtZ_len]; exact h
 rw [List.take_add_one, List.getElem?_eq_getElem hk, Option.toList_some, List.foldl_append]
 simp only [List.foldl_cons, List.foldl_nil]
 congr 1
 rw [List.getElem_reverse, List.getD_eq_getElem?_getD]
 have : (srtZ l).length - 1 - k = l.length - 1 - k := by rw [srtZ_len]
 simp only [this]
 rw [List.getElem?_eq_getElem (by rw [srtZ_len]; omega)]
 rfl
theorem stabL_len (l : List Int) (w : Int) : ∀ k, (stabL l w k).length ≤ k
 | 0 => by simp [stabL]
 | k + 1 => by
   by_cases h : k < l.length
   ·rw [stabL_succ h]
    exact Nat.le_trans (stabF_len _ _ _) (by have := stabL_len l w k; omega)
   ·have : stabL l w (k + 1) = stabL l w k := by
     unfold stabL
     rw [List.take_of_length_le (by rw [List.length_reverse, srtZ_len]; omega), List.take_of_length_le (by rw [List.length_reverse, srtZ_len]; omega)]
    rw [this]
    have := stabL_len l w k; omega
abbrev rec10 (l S : List Int) (w : Int) (tb tw : Nat) (s : LoopState) : Blk := recB Tryd.prog 46 [(21, .fn 86 [] [.pv [vi S] 0]), (20, vi S), (8, .p tb 0), (18, .b false), (17, .i .i64 0), (7, .i .i64 0), (6, vi S), (16, .i .i64 0), (15, vi S), (11, .tu [vi S, .i .i64 0]), (14, .tu [vi S, .i .i64 0]), (13, .i .i64 w), (12, vi l), (5, .i .i64 0), (4, .sl 0 0 0 0), (3, .p tw 0), (0, vi l), (1, .i .i64 w)] [22, 23] c49a9 c49y9 s
structure App10 (l S : List Int) (w : Int) (t tb tw x : Nat) (xs : List Int) (h : AH) : Prop where
 r : h.m t = some (rec10 l S w tb tw .ready)
 b : h.m tb = some (.cells true [.sl x 0 xs.length 1])
 c : h.m x = some (.cells true (il xs))
 v : h.m tw = some (.cells true [.i .i64 w])
 x0 : x ≠ 0
 t1 : t ≠ tb
 t2 : t ≠ x
 t3 : tb ≠ x
 t4 : t ≠ tw
 t5 : tb ≠ tw
 t6 : x ≠ tw
theorem RG49 : (type_of% @c49r0.eq_1) ∧ (type_of% @c49r1.eq_1) ∧ (type_of% @c49r2.eq_1) ∧ (type_of% @c49r3.eq_1) ∧ (type_of% @c49r4.eq_1) ∧ (type_of% @c49r5.eq_1) ∧ (type_of% @c49r6.eq_1) ∧ (type_of% @c49r7.eq_1) ∧ (type_of% @c49r8.eq_1) ∧ (type_of% @c49r10.eq_1) ∧ (type_of% @c49r11.eq_1) := ⟨@c49r0.eq_1, @c49r1.eq_1, @c49r2.eq_1, @c49r3.eq_1, @c49r4.eq_1, @c49r5.eq_1, @c49r6.eq_1, @c49r7.eq_1, @c49r8.eq_1, @c49r10.eq_1, @c49r11.eq_1⟩
set_option maxHeartbeats 1000000 in
theorem round10 {l S : List Int} {w : Int} {t tb tw x : Nat} {xs : List Int} {i v : Int} {h : AH} {K : AH → Prop} (ok : h.ok) (A : App10 l S w t tb tw x xs h) (hn : xs.length ≤ 100000) (hw : 0 ≤ w ∧ w ≤ 1000000) (hv : -1000000 ≤ v ∧ v ≤ 1000000)
 (k : ∀ x' h', App10 l S w t tb tw x' (stabF w xs v) h' → (∀ s, s < h.nx → s ≠ x → s ≠ tb → h'.m s = h.m s) → h.nx ≤ h'.nx → K h') : YW Tryd.prog t [.i .i64 i, .i .i64 v] h K := by
 obtain ⟨hr, hb, hx, hwv, x0, t1, t2, t3, t4, t5, t6⟩ := A
 have lt := ok.m hr
 have lb := ok.m hb
 have lx := ok.m hx
 have lw := ok.m hwv
 have t1' : ¬ tb = t := fun q => t1 q.symm
 have t2' : ¬ x = t := fun q => t2 q.symm
 have t3' : ¬ x = tb := fun q => t3 q.symm
 have t4' : ¬ tw = t := fun q => t4 q.symm
 have t5' : ¬ tw = tb := fun q => t5 q.symm
 have t6' : ¬ tw = x := fun q => t6 q.symm
 have wr : IntKind.i64.wrap (v - w) = v - w := wrap64 (by omega) (by omega)
 refine ⟨46, _, _, _, _, hr, rfl, ?_⟩
 simp only [setPs]
 repeat' first | (with_reducible first | refine k_seq ?_ | refine k_skip ?_ | refine k_blkS ?_ | refine k_blkR ?_ | refine k_blkC ?_ | refine k_blkH ?_ | refine k_blkB ?_ | refine k_blkK ?_ | refine k_blkE ?_ | refine k_reg ?_) | with_reducible refine r_done ?_ | with_reducible refine s_go (by simp (disch := omega) only [RG49, EVA, plug, eq_self, simprocAttr]; with_reducible rfl) ?_ | ((with_reducible refine chk_r ?_); refine r_callF (by simp only [CA, simprocAttr]; rfl) (by exact rfl) (by simp only [CA, simprocAttr]; rfl) rfl ?_) | (with_reducible refine k_condP (by simp only [GA, simprocAttr]; rfl) (by first | (simp only [BO]; rfl) | rfl) (fun ht => ?_) (fun ht => ?_) <;> try (first | exact False.elim ht | exact absurd rfl ht | exact absurd trivial ht | exact Bool.noConfusion ht)) | (with_reducible refine k_ret ?_; repeat with_reducible (first | refine ret_thru ?_ | refine ret_blk ?_ | refine fin ?_)) | (with_reducible refine k_exit ?_; repeat with_reducible (first | refine thru ?_ | refine out_blk ?_ | refine pass (by decide) ?_)) | ((first | refine post1 ?_ | refine post2 ?_ | refine post3 ?_); simp only [GA, simprocAttr]) | refine post0 ?_
 refine ⟨by simp (disch := omega) only [hr, RG49, EVA, plug, eq_self, simprocAttr], ?_⟩
 have f1 : ¬ t = h.nx + 1 + 13 + 5 := by omega
 have f2 : ¬ tb = h.nx + 1 + 13 + 5 := by omega
 have f3 : ¬ t = h.nx + 1 + 13 + 4 := by omega
 by_cases he : xs.length = 0
 ·have he' := eq_true (show (xs.length : Int) = 0 by omega)
  have e : stabF w xs v = xs ++ [v - w] := if_pos (.inl he)
  rw [e] at k
  repeat' first | (with_reducible first | refine k_seq ?_ | refine k_skip ?_ | refine k_blkS ?_ | refine k_blkR ?_ | refine k_blkC ?_ | refine k_blkH ?_ | refine k_blkB ?_ | refine k_blkK ?_ | refine k_blkE ?_ | refine k_reg ?_) | with_reducible refine r_done ?_ | with_reducible refine s_go (by simp (disch := omega) only [he', hb, row_m hb, read_row (row_m hb), hx, hwv, row_m hwv, read_row (row_m hwv), x0, t1, t2, t3, t1', t2', t3', t4', t5', t6', t4, t5, t6, wr, il_len, RG49, EVA, plug, eq_self, simprocAttr]; with_reducible rfl) ?_ | ((with_reducible refine chk_r ?_); refine r_callF (by simp only [CA, simprocAttr]; rfl) (by exact rfl) (by simp only [CA, simprocAttr]; rfl) rfl ?_) | (with_reducible refine k_condP (by simp only [GA, simprocAttr]; rfl) (by first | (simp only [BO]; rfl) | rfl) (fun ht => ?_) (fun ht => ?_) <;> try (first | exact False.elim ht | exact absurd rfl ht | exact absurd trivial ht | exact Bool.noConfusion ht)) | (with_reducible refine k_ret ?_; repeat with_reducible (first | refine ret_thru ?_ | refine ret_blk ?_ | refine fin ?_)) | (with_reducible refine k_exit ?_; repeat with_reducible (first | refine thru ?_ | refine out_blk ?_ | refine pass (by decide) ?_)) | ((first | refine post1 ?_ | refine post2 ?_ | refine post3 ?_); simp only [GA, simprocAttr]) | refine post0 ?_
  refine ⟨by simp (disch := omega) only [t1, t2, f1, f3, RG49, EVA, plug, eq_self, simprocAttr], k (h.nx + 1 + 13 + 5) _ ⟨by simp (disch := omega) only [RG49, EVA, plug, eq_self, simprocAttr] <;> rfl, ?_, ?_, ?_, by omega, t1, f1, f2, t4, t5, by omega⟩ (fun s s1 s2 s3 => ?_) (by simp (disch := omega) only [RG49, EVA, plug, eq_self, simprocAttr] <;> omega)⟩
  ·rw [List.length_append, List.length_singleton]
   simp (disch := omega) only [t1', RG49, EVA, plug, eq_self, simprocAttr] <;> rfl
  ·have g1 : ¬ h.nx + 1 + 13 + 5 = t := by omega
   have g2 : ¬ h.nx + 1 + 13 + 5 = tb := by omega
   simp (disch := omega) only [g1, g2, RG49, EVA, plug, eq_self, simprocAttr] <;> rfl
  ·have g3 : ¬ tw = h.nx + 1 + 13 + 5 := by omega
   have g4 : ¬ tw = h.nx + 1 + 13 + 4 := by omega
   simp (disch := omega) only [t4', t5', t6', g3, g4, hwv, RG49, EVA, plug, eq_self, simprocAttr]
  ·have s4 : ¬ s = h.nx + 1 + 13 + 5 := by omega
   have s5 : ¬ s = h.nx + 1 + 13 + 4 := by omega
   by_cases e : s = t
   ·subst e
    rw [hr]
    simp (disch := omega) only [RG49, EVA, plug, eq_self, simprocAttr] <;> rfl
   ·simp (disch := omega) only [e, s2, s3, s4, s5, RG49, EVA, plug, eq_self, simprocAttr]
 ·have he' := eq_false (show ¬ (xs.length : Int) = 0 by omega)
  have w1 : IntKind.i64.wrap ((xs.length : Int) - 1) = xs.length - 1 := wrap64 (by omega) (by omega)
  have j0 : (0 : Int) ≤ (xs.length : Int) - 1 := by omega
  have j1 : (xs.length : Int) - 1 < xs.length := by omega
  have j2 : ((xs.length : Int) - 1).toNat = xs.length - 1 := by omega
  have g := il_get (l := xs) (j := xs.length - 1) (by omega)
  by_cases hlt : v < xs.getD (xs.length - 1) 0
  ·have hlt' := eq_true hlt
   have e : stabF w xs v = xs ++ [v - w] := if_pos (.inr hlt)
   rw [e] at k
   generalize xs.getD (xs.length - 1) 0 = last at *
   repeat' first | (with_reducible first | refine k_seq ?_ | refine k_skip ?_ | refine k_blkS ?_ | refine k_blkR ?_ | refine k_blkC ?_ | refine k_blkH ?_ | refine k_blkB ?_ | refine k_blkK ?_ | refine k_blkE ?_ | refine k_reg ?_) | with_reducible refine r_done ?_ | with_reducible refine s_go (by simp (disch := omega) only [he', hlt', w1, j0, j1, j2, g, row_m hx, read_row (row_m hx), hb, row_m hb, read_row (row_m hb), hx, hwv, row_m hwv, read_row (row_m hwv), x0, t1, t2, t3, t1', t2', t3', t4', t5', t6', t4, t5, t6, wr, il_len, RG49, EVA, plug, eq_self, simprocAttr]; with_reducible rfl) ?_ | ((with_reducible refine chk_r ?_); refine r_callF (by simp only [CA, simprocAttr]; rfl) (by exact rfl) (by simp only [CA, simprocAttr]; rfl) rfl ?_) | (with_reducible refine k_condP (by simp only [GA, simprocAttr]; rfl) (by first | (simp only [BO]; rfl) | rfl) (fun ht => ?_) (fun ht => ?_) <;> try (first | exact False.elim ht | exact absurd rfl ht | exact absurd trivial ht | exact Bool.noConfusion ht)) | (with_reducible refine k_ret ?_; repeat with_reducible (first | refine ret_thru ?_ | refine ret_blk ?_ | refine fin ?_)) | (with_reducible refine k_exit ?_; repeat with_reducible (first | refine thru ?_ | refine out_blk ?_ | refine pass (by decide) ?_)) | ((first | refine post1 ?_ | refine post2 ?_ | refine post3 ?_); simp only [GA, simprocAttr]) | refine post0 ?_
   refine ⟨by simp (disch := omega) only [t1, t2, f1, f3, RG49, EVA, plug, eq_self, simprocAttr], k (h.nx + 1 + 13 + 5) _ ⟨by simp (disch := omega) only [RG49, EVA, plug, eq_self, simprocAttr] <;> rfl, ?_, ?_, ?_, by omega, t1, f1, f2, t4, t5, by omega⟩ (fun s s1 s2 s3 => ?_) (by simp (disch := omega) only [RG49, EVA, plug, eq_self, simprocAttr] <;> omega)⟩
   ·rw [List.length_append, List.length_singleton]
    simp (disch := omega) only [t1', RG49, EVA, plug, eq_self, simprocAttr] <;> rfl
   ·have g1 : ¬ h.nx + 1 + 13 + 5 = t := by omega
    have g2 : ¬ h.nx + 1 + 13 + 5 = tb := by omega
    simp (disch := omega) only [g1, g2, RG49, EVA, plug, eq_self, simprocAttr] <;> rfl
   ·have g3 : ¬ tw = h.nx + 1 + 13 + 5 := by omega
    have g4 : ¬ tw = h.nx + 1 + 13 + 4 := by omega
    simp (disch := omega) only [t4', t5', t6', g3, g4, hwv, RG49, EVA, plug, eq_self, simprocAttr]
   ·have s4 : ¬ s = h.nx + 1 + 13 + 5 := by omega
    have s5 : ¬ s = h.nx + 1 + 13 + 4 := by omega
    by_cases e : s = t
    ·subst e
     rw [hr]
     simp (disch := omega) only [RG49, EVA, plug, eq_self, simprocAttr] <;> rfl
    ·simp (disch := omega) only [e, s2, s3, s4, s5, RG49, EVA, plug, eq_self, simprocAttr]
  ·have hlt' := eq_false hlt
   have e : stabF w xs v = xs := if_neg fun q => q.elim he hlt
   rw [e] at k
   generalize xs.getD (xs.length - 1) 0 = last at *
   repeat' first | (with_reducible first | refine k_seq ?_ | refine k_skip ?_ | refine k_blkS ?_ | refine k_blkR ?_ | refine k_blkC ?_ | refine k_blkH ?_ | refine k_blkB ?_ | refine k_blkK ?_ | refine k_blkE ?_ | refine k_reg ?_) | with_reducible refine r_done ?_ | with_reducible refine s_go (by simp (disch := omega) only [he', hlt', w1, j0, j1, j2, g, row_m hx, read_row (row_m hx), hb, row_m hb, read_row (row_m hb), hx, hwv, row_m hwv, read_row (row_m hwv), x0, t1, t2, t3, t1', t2', t3', t4', t5', t6', t4, t5, t6, wr, il_len, RG49, EVA, plug, eq_self, simprocAttr]; with_reducible rfl) ?_ | ((with_reducible refine chk_r ?_); refine r_callF (by simp only [CA, simprocAttr]; rfl) (by exact rfl) (by simp only [CA, simprocAttr]; rfl) rfl ?_) | (with_reducible refine k_condP (by simp only [GA, simprocAttr]; rfl) (by first | (simp only [BO]; rfl) | rfl) (fun ht => ?_) (fun ht => ?_) <;> try (first | exact False.elim ht | exact absurd rfl ht | exact absurd trivial ht | exact Bool.noConfusion ht)) | (with_reducible refine k_ret ?_; repeat with_reducible (first | refine ret_thru ?_ | refine ret_blk ?_ | refine fin ?_)) | (with_reducible refine k_exit ?_; repeat with_reducible (first | refine thru ?_ | refine out_blk ?_ | refine pass (by decide) ?_)) | ((first | refine post1 ?_ | refine post2 ?_ | refine post3 ?_); simp only [GA, simprocAttr]) | refine post0 ?_
   refine ⟨by simp (disch := omega) only [RG49, EVA, plug, eq_self, simprocAttr] <;> rfl, k x _ ⟨by simp (disch := omega) only [RG49, EVA, plug, eq_self, simprocAttr] <;> rfl, by simp (disch := omega) only [t1', hb, RG49, EVA, plug, eq_self, simprocAttr], by simp (disch := omega) only [t2', hx, RG49, EVA, plug, eq_self, simprocAttr], by simp (disch := omega) only [t4', hwv, RG49, EVA, plug, eq_self, simprocAttr], x0, t1, t2, t3, t4, t5, t6⟩ (fun s s1 s2 s3 => ?_) (by simp (disch := omega) only [RG49, EVA, plug, eq_self, simprocAttr] <;> omega)⟩
   by_cases e : s = t
   ·subst e
    rw [hr]
    simp (disch := omega) only [RG49, EVA, plug, eq_self, simprocAttr] <;> rfl
   ·simp (disch := omega) only [e, RG49, EVA, plug, eq_self, simprocAttr]
theorem end10 {R : AV → AH → Prop} {l S : List Int} {w : Int} {t tb tw x : Nat} {xs : List Int} {h : AH} (hn : xs.length ≤ 1000) (A : App10 l S w t tb tw x xs h) (hA : ∀ x h2, h2.m x = some (.cells true (il xs.reverse)) → R (.tu [.sl x 0 xs.reverse.length 1, .i .i64 0]) h2) :
 W0 Tryd.prog 46 (.seq (.reg c49r10) (.seq (.reg c49r11) .ret)) (athen (Post q49 R) (Fin (Post q49 R)))
  [(21, .fn 86 [] [.pv [vi S] 0]), (20, vi S), (8, .p tb 0), (18, .b false), (17, .i .i64 0), (7, .i .i64 0), (6, vi S), (16, .i .i64 0), (15, vi S), (11, .tu [vi S, .i .i64 0]), (14, .tu [vi S, .i .i64 0]), (13, .i .i64 w), (12, vi l), (5, .i .i64 0), (4, .sl 0 0 0 0), (3, .p tw 0), (0, vi l), (1, .i .i64 w)] (h.kill t) := by
 obtain ⟨hr, hb, hx, hwv, x0, t1, t2, t3, t4, t5, t6⟩ := A
 have t1' : ¬ tb = t := fun q => t1 q.symm
 have t2' : ¬ x = t := fun q => t2 q.symm
 have t3' : ¬ x = tb := fun q => t3 q.symm
 have hb' : (h.kill t).m tb = some (.cells true [.sl x 0 xs.length 1]) := by simp only [AH.kill, t1', if_false]; exact hb
 have hx' : (h.kill t).m x = some (.cells true (il xs)) := by simp only [AH.kill, t2', if_false]; exact hx
 have q33 := fun h hm => reverse_int revI (h := h) (t := x) (a := 1) (d := xs) hm (by omega)
 refine w0_of ?_
 repeat' first | (with_reducible first | refine k_seq ?_ | refine k_skip ?_ | refine k_blkS ?_ | refine k_blkR ?_ | refine k_blkC ?_ | refine k_blkH ?_ | refine k_blkB ?_ | refine k_blkK ?_ | refine k_blkE ?_ | refine k_reg ?_) | with_reducible refine r_done ?_ | with_reducible refine s_go (by simp (disch := omega) only [hb', row_m hb', read_row (row_m hb'), RG49, EVA, plug, eq_self, simprocAttr]; with_reducible rfl) ?_ | ((with_reducible refine chk_r ?_); refine r_callF (by simp only [CA, simprocAttr]; rfl) (by exact rfl) (by simp only [CA, simprocAttr]; rfl) rfl ?_) | ((with_reducible refine chk_r ?_); refine r_callX (by simp only [CA, simprocAttr]; rfl) (by simp only [CA, simprocAttr]; rfl) (by first | exact q33 _ (by simp (disch := omega) only [hx', RG49, EVA, plug, eq_self, simprocAttr] <;> rfl)) rfl ?_) | (with_reducible refine k_condP (by simp only [GA, simprocAttr]; rfl) (by first | (simp only [BO]; rfl) | rfl) (fun ht => ?_) (fun ht => ?_) <;> try (first | exact False.elim ht | exact absurd rfl ht | exact absurd trivial ht | exact Bool.noConfusion ht)) | (with_reducible refine k_ret ?_; repeat with_reducible (first | refine ret_thru ?_ | refine ret_blk ?_ | refine fin ?_)) | (with_reducible refine k_exit ?_; repeat with_reducible (first | refine thru ?_ | refine out_blk ?_ | refine pass (by decide) ?_)) | ((first | refine post1 ?_ | refine post2 ?_ | refine post3 ?_); simp only [GA, simprocAttr]) | refine post0 ?_
 rintro r h2 ⟨rfl, rfl⟩
 repeat' first | (with_reducible first | refine k_seq ?_ | refine k_skip ?_ | refine k_blkS ?_ | refine k_blkR ?_ | refine k_blkC ?_ | refine k_blkH ?_ | refine k_blkB ?_ | refine k_blkK ?_ | refine k_blkE ?_ | refine k_reg ?_) | with_reducible refine r_done ?_ | with_reducible refine s_go (by simp (disch := omega) only [hb', row_m hb', read_row (row_m hb'), t3, RG49, EVA, plug, eq_self, simprocAttr]; with_reducible rfl) ?_ | ((with_reducible refine chk_r ?_); refine r_callF (by simp only [CA, simprocAttr]; rfl) (by exact rfl) (by simp only [CA, simprocAttr]; rfl) rfl ?_) | (with_reducible refine k_condP (by simp only [GA, simprocAttr]; rfl) (by first | (simp only [BO]; rfl) | rfl) (fun ht => ?_) (fun ht => ?_) <;> try (first | exact False.elim ht | exact absurd rfl ht | exact absurd trivial ht | exact Bool.noConfusion ht)) | (with_reducible refine k_ret ?_; repeat with_reducible (first | refine ret_thru ?_ | refine ret_blk ?_ | refine fin ?_)) | (with_reducible refine k_exit ?_; repeat with_reducible (first | refine thru ?_ | refine out_blk ?_ | refine pass (by decide) ?_)) | ((first | refine post1 ?_ | refine post2 ?_ | refine post3 ?_); simp only [GA, simprocAttr]) | refine post0 ?_
 have e : xs.length = xs.reverse.length := by rw [List.length_reverse]
 rw [e]
 exact hA _ _ (by simp (disch := omega) only [RG49, EVA, plug, eq_self, simprocAttr] <;> rfl)
theorem RG86 : (type_of% @c86r0.eq_1) ∧ (type_of% @c86r1.eq_1) ∧ (type_of% @c86r2.eq_1) ∧ (type_of% @c86r3.eq_1) := ⟨@c86r0.eq_1, @c86r1.eq_1, @c86r2.eq_1, @c86r3.eq_1⟩
set_option maxHeartbeats 1000000 in
theorem a10 (l : List Int) (hl : l.length ≤ 9223372036854775807) (w : Int) {R : AV → AH → Prop} (hA : ∀ x h2, h2.m x = some (.cells true (il (stabR l w).1)) → R (.tu [.sl x 0 (stabR l w).1.length 1, .i .i64 (stabR l w).2]) h2) (hB : (stabR l w).1 = [] → ∀ h2, R (.tu [.sl 0 0 0 0, .i .i64 (stabR l w).2]) h2) (h0 : AH) : ACalls Tryd.prog 49 [vi l, .i .i64 w] h0 R := by
 refine a_fn0 fn49 (by simp) fun ok pos => ?_
 rw [initSt2]
 have q31 := pc31 l hl w
 refine k0_seq ?_
 repeat' first | (with_reducible first | refine k_seq ?_ | refine k_skip ?_ | refine k_blkS ?_ | refine k_blkR ?_ | refine k_blkC ?_ | refine k_blkH ?_ | refine k_blkB ?_ | refine k_blkK ?_ | refine k_blkE ?_ | refine k_reg ?_) | with_reducible refine r_done ?_ | with_reducible refine s_go (by simp (disch := omega) only [RG49, EVA, plug, eq_self, simprocAttr]; with_reducible rfl) ?_ | ((with_reducible refine chk_r ?_); refine r_callF (by simp only [CA, simprocAttr]; rfl) (by exact rfl) (by simp only [CA, simprocAttr]; rfl) rfl ?_) | (with_reducible refine k_condP (by simp only [GA, simprocAttr]; rfl) (by first | (simp only [BO]; rfl) | rfl) (fun ht => ?_) (fun ht => ?_) <;> try (first | exact False.elim ht | exact absurd rfl ht | exact absurd trivial ht | exact Bool.noConfusion ht)) | (with_reducible refine k_ret ?_; repeat with_reducible (first | refine ret_thru ?_ | refine ret_blk ?_ | refine fin ?_)) | (with_reducible refine k_exit ?_; repeat with_reducible (first | refine thru ?_ | refine out_blk ?_ | refine pass (by decide) ?_)) | ((first | refine post1 ?_ | refine post2 ?_ | refine post3 ?_); simp only [GA, simprocAttr]) | refine post0 ?_
 refine k0_seq ?_
 repeat' first | (with_reducible first | refine k_seq ?_ | refine k_skip ?_ | refine k_blkS ?_ | refine k_blkR ?_ | refine k_blkC ?_ | refine k_blkH ?_ | refine k_blkB ?_ | refine k_blkK ?_ | refine k_blkE ?_ | refine k_reg ?_) | with_reducible refine r_done ?_ | with_reducible refine s_go (by simp (disch := omega) only [RG49, EVA, plug, eq_self, simprocAttr]; with_reducible rfl) ?_ | ((with_reducible refine chk_r ?_); refine r_callF (by simp only [CA, simprocAttr]; rfl) (by exact rfl) (by simp only [CA, simprocAttr]; rfl) rfl ?_) | ((with_reducible refine chk_r ?_); refine r_callP (by simp only [CA, simprocAttr]; rfl) (by simp only [CA, simprocAttr]; rfl) (by first | exact q31 _) rfl ?_) | (with_reducible refine k_condP (by simp only [GA, simprocAttr]; rfl) (by first | (simp only [BO]; rfl) | rfl) (fun ht => ?_) (fun ht => ?_) <;> try (first | exact False.elim ht | exact absurd rfl ht | exact absurd trivial ht | exact Bool.noConfusion ht)) | (with_reducible refine k_ret ?_; repeat with_reducible (first | refine ret_thru ?_ | refine ret_blk ?_ | refine fin ?_)) | (with_reducible refine k_exit ?_; repeat with_reducible (first | refine thru ?_ | refine out_blk ?_ | refine pass (by decide) ?_)) | ((first | refine post1 ?_ | refine post2 ?_ | refine post3 ?_); simp only [GA, simprocAttr]) | refine post0 ?_
 unfold stabR at hA hB
 by_cases he : (valR l w).2 = 0
 ·have hs : valR l w = (srtZ l, 0) := by
   unfold valR at he ⊢
   split at he
   ·cases he
   ·split at he
    ·cases he
    ·rename_i h1 h2; rw [if_neg h1, if_neg h2]
  have hlen : l.length ≤ 200 := by
   unfold valR at he
   split at he
   ·cases he
   ·omega
  rw [if_neg (by simp [he])] at hA hB
  rw [hs]
  refine k0_seq ?_
  repeat' first | (with_reducible first | refine k_seq ?_ | refine k_skip ?_ | refine k_blkS ?_ | refine k_blkR ?_ | refine k_blkC ?_ | refine k_blkH ?_ | refine k_blkB ?_ | refine k_blkK ?_ | refine k_blkE ?_ | refine k_reg ?_) | with_reducible refine r_done ?_ | with_reducible refine s_go (by simp (disch := omega) only [RG49, EVA, plug, eq_self, simprocAttr]; with_reducible rfl) ?_ | ((with_reducible refine chk_r ?_); refine r_callF (by simp only [CA, simprocAttr]; rfl) (by exact rfl) (by simp only [CA, simprocAttr]; rfl) rfl ?_) | (with_reducible refine k_condP (by simp only [GA, simprocAttr]; rfl) (by first | (simp only [BO]; rfl) | rfl) (fun ht => ?_) (fun ht => ?_) <;> try (first | exact False.elim ht | exact absurd rfl ht | exact absurd trivial ht | exact Bool.noConfusion ht)) | (with_reducible refine k_ret ?_; repeat with_reducible (first | refine ret_thru ?_ | refine ret_blk ?_ | refine fin ?_)) | (with_reducible refine k_exit ?_; repeat with_reducible (first | refine thru ?_ | refine out_blk ?_ | refine pass (by decide) ?_)) | ((first | refine post1 ?_ | refine post2 ?_ | refine post3 ?_); simp only [GA, simprocAttr]) | refine post0 ?_
  refine k0_seq ?_
  repeat' first | (with_reducible first | refine k_seq ?_ | refine k_skip ?_ | refine k_blkS ?_ | refine k_blkR ?_ | refine k_blkC ?_ | refine k_blkH ?_ | refine k_blkB ?_ | refine k_blkK ?_ | refine k_blkE ?_ | refine k_reg ?_) | with_reducible refine r_done ?_ | with_reducible refine s_go (by simp (disch := omega) only [RG49, EVA, plug, eq_self, simprocAttr]; with_reducible rfl) ?_ | ((with_reducible refine chk_r ?_); refine r_callF (by simp only [CA, simprocAttr]; rfl) (by exact rfl) (by simp only [CA, simprocAttr]; rfl) rfl ?_) | (with_reducible refine k_condP (by simp only [GA, simprocAttr]; rfl) (by first | (simp only [BO]; rfl) | rfl) (fun ht => ?_) (fun ht => ?_) <;> try (first | exact False.elim ht | exact absurd rfl ht | exact absurd trivial ht | exact Bool.noConfusion ht)) | (with_reducible refine k_ret ?_; repeat with_reducible (first | refine ret_thru ?_ | refine ret_blk ?_ | refine fin ?_)) | (with_reducible refine k_exit ?_; repeat with_reducible (first | refine thru ?_ | refine out_blk ?_ | refine pass (by decide) ?_)) | ((first | refine post1 ?_ | refine post2 ?_ | refine post3 ?_); simp only [GA, simprocAttr]) | refine post0 ?_
  refine k0_seq0 (k0_seq ?_)
  refine w_virtH 1 (s := h0.nx + 3 + 8 + 2) (ds := [.sl 0 0 0 0]) (i := 0) (by simp (disch := omega) only [RG49, EVA, plug, eq_self, simprocAttr] <;> rfl) rfl fun pos1 lt1 => ?_
  repeat' first | (with_reducible first | refine k_seq ?_ | refine k_skip ?_ | refine k_blkS ?_ | refine k_blkR ?_ | refine k_blkC ?_ | refine k_blkH ?_ | refine k_blkB ?_ | refine k_blkK ?_ | refine k_blkE ?_ | refine k_reg ?_) | with_reducible refine r_done ?_ | with_reducible refine s_go (by simp (disch := omega) only [RG49, EVA, plug, eq_self, simprocAttr]; with_reducible rfl) ?_ | ((with_reducible refine chk_r ?_); refine r_callF (by simp only [CA, simprocAttr]; rfl) (by exact rfl) (by simp only [CA, simprocAttr]; rfl) rfl ?_) | ((with_reducible refine chk_r ?_); refine r_callP (by simp only [CA, simprocAttr]; rfl) (by simp only [CA, simprocAttr]; rfl) (by first | exact pc32 _ _) rfl ?_) | (with_reducible refine k_condP (by simp only [GA, simprocAttr]; rfl) (by first | (simp only [BO]; rfl) | rfl) (fun ht => ?_) (fun ht => ?_) <;> try (first | exact False.elim ht | exact absurd rfl ht | exact absurd trivial ht | exact Bool.noConfusion ht)) | (with_reducible refine k_ret ?_; repeat with_reducible (first | refine ret_thru ?_ | refine ret_blk ?_ | refine fin ?_)) | (with_reducible refine k_exit ?_; repeat with_reducible (first | refine thru ?_ | refine out_blk ?_ | refine pass (by decide) ?_)) | ((first | refine post1 ?_ | refine post2 ?_ | refine post3 ?_); simp only [GA, simprocAttr]) | refine post0 ?_
  refine k0_blk (w0_rf rfl fun ok2 pos2 => ?_)
  simp only [List.nil_append, List.cons_append]
  refine i_fn fn86 rfl (by simp) fun ok3 pos3 => ?_
  rw [initSt2]
  have hbs : ∀ x ∈ srtZ l, -1000000 ≤ x ∧ x ≤ 1000000 := fun x hx => by
   have hx : x ∈ l := (List.mergeSort_perm l _).mem_iff.1 hx
   have : farZ x = false := by
    cases q : farZ x with
    | false => rfl
    | true =>
      have := anyZ_iff.2 ⟨x, hx, q⟩
      unfold valR at hs
      rw [if_neg (by omega), if_pos (.inr this)] at hs
      exact absurd (congrArg Prod.snd hs) (by simp)
   simp only [farZ, Bool.not_eq_false', Bool.and_eq_true, decide_eq_true_eq] at this
   exact this
  have hwd : 0 ≤ w ∧ w ≤ 1000000 := by
   cases q : widOk w with
   | true => simp only [widOk, Bool.and_eq_true, decide_eq_true_eq] at q; exact q
   | false =>
     unfold valR at hs
     rw [if_neg (by omega), if_pos (.inl q)] at hs
     exact absurd (congrArg Prod.snd hs) (by simp)
  have sl := srtZ_len l
  generalize hS : srtZ l = S at *
  have w0 : IntKind.i64.wrap ((S.length : Int) - 1) = S.length - 1 := wrap64 (by omega) (by omega)
  repeat' first | (with_reducible first | refine k_seq ?_ | refine k_skip ?_ | refine k_blkS ?_ | refine k_blkR ?_ | refine k_blkC ?_ | refine k_blkH ?_ | refine k_blkB ?_ | refine k_blkK ?_ | refine k_blkE ?_ | refine k_reg ?_) | with_reducible refine r_done ?_ | with_reducible refine s_go (by simp (disch := omega) only [w0, RG86, EVA, plug, eq_self, simprocAttr]; with_reducible rfl) ?_ | ((with_reducible refine chk_r ?_); refine r_callF (by simp only [CA, simprocAttr]; rfl) (by exact rfl) (by simp only [CA, simprocAttr]; rfl) rfl ?_) | (with_reducible refine k_condP (by simp only [GA, simprocAttr]; rfl) (by first | (simp only [BO]; rfl) | rfl) (fun ht => ?_) (fun ht => ?_) <;> try (first | exact False.elim ht | exact absurd rfl ht | exact absurd trivial ht | exact Bool.noConfusion ht)) | (with_reducible refine k_ret ?_; repeat with_reducible (first | refine ret_thru ?_ | refine ret_blk ?_ | refine fin ?_)) | (with_reducible refine k_exit ?_; repeat with_reducible (first | refine thru ?_ | refine out_blk ?_ | refine pass (by decide) ?_)) | ((first | refine post1 ?_ | refine post2 ?_ | refine post3 ?_); simp only [GA, simprocAttr]) | refine post0 ?_
  refine k_blk (k_loopS (X := Nat) [0, 1, 3] S.length (fun k x => [(0, .fy (h0.nx + 3 + 8 + 2 + 1 + 1 + 2)), (1, .pv [vi S] 0), (3, .i .i64 ((S.length : Int) - 1 - k))])
   (fun k x h => App10 l S w (h0.nx + 3 + 8 + 2 + 1 + 1 + 2) (h0.nx + 13) h0.nx x (stabL l w k) h) _ (by simp [Am.keep, St.get]) ⟨by simp (disch := omega) only [RG86, EVA, plug, eq_self, simprocAttr] <;> rfl, by simp (disch := omega) only [RG86, EVA, plug, eq_self, simprocAttr] <;> rfl, by simp (disch := omega) only [RG86, EVA, plug, eq_self, simprocAttr] <;> rfl, by simp (disch := omega) only [RG86, EVA, plug, eq_self, simprocAttr] <;> rfl, by omega, by omega, by omega, by omega, by omega, by omega, by omega⟩ ?_)
  rintro k x h2 hk A ok4 pos4
  by_cases klt : k < S.length
  ·have c1 : (0 : Int) ≤ (S.length : Int) - 1 - k := by omega
   have c2 : (S.length : Int) - 1 - k < S.length := by omega
   have c3 : ((S.length : Int) - 1 - k).toNat = S.length - 1 - k := by omega
   have g := il_get (l := S) (j := S.length - 1 - k) (by omega)
   have ss := stabL_succ (l := l) (w := w) (k := k) (by omega)
   rw [hS, ← sl] at ss
   have bv := hbs (S.getD (S.length - 1 - k) 0) (by rw [List.getD_eq_getElem?_getD, List.getElem?_eq_getElem (by omega)]; exact List.getElem_mem _)
   have ll := stabL_len l w k
   have w1 : IntKind.i64.wrap ((S.length : Int) - 1 - k - 1) = S.length - 1 - k - 1 := wrap64 (by omega) (by omega)
   generalize S.getD (S.length - 1 - k) 0 = v at *
   repeat' first | with_reducible refine k_seq ?_ | with_reducible refine k_skip ?_ | with_reducible refine k_blkS ?_ | with_reducible refine k_blkR ?_ | with_reducible refine k_blkC ?_ | with_reducible refine k_blkH ?_ | with_reducible refine k_blkB ?_ | with_reducible refine k_blkK ?_ | with_reducible refine k_blkE ?_ | (fail_if_success (with_reducible refine k_reg (ops := c86r2) ?_)); with_reducible refine k_reg ?_ | with_reducible refine r_done ?_ | with_reducible refine s_go (by simp (disch := omega) only [c1, c2, c3, g, RG86, EVA, plug, eq_self, simprocAttr]; with_reducible rfl) ?_ | ((with_reducible refine chk_r ?_); refine r_callF (by simp only [CA, simprocAttr]; rfl) (by exact rfl) (by simp only [CA, simprocAttr]; rfl) rfl ?_) | (with_reducible refine k_condP (by simp only [GA, simprocAttr]; rfl) (by first | (simp only [BO]; rfl) | rfl) (fun ht => ?_) (fun ht => ?_) <;> try (first | exact False.elim ht | exact absurd rfl ht | exact absurd trivial ht | exact Bool.noConfusion ht)) | (with_reducible refine k_ret ?_; repeat with_reducible (first | refine ret_thru ?_ | refine ret_blk ?_ | refine fin ?_)) | (with_reducible refine k_exit ?_; repeat with_reducible (first | refine thru ?_ | refine out_blk ?_ | refine pass (by decide) ?_)) | ((first | refine post1 ?_ | refine post2 ?_ | refine post3 ?_); simp only [GA, simprocAttr]) | refine post0 ?_
   refine k_yld 6 rfl ?_
   refine s_go (by simp (disch := omega) only [List.take_succ_cons, List.take_zero, c1, c2, c3, g, RG86, EVA, plug, eq_self, simprocAttr]; with_reducible rfl) ?_
   refine r_done ?_
   refine ⟨_, rfl, ?_⟩
   refine round10 (x := x) (xs := stabL l w k) (v := v) (fun t b hb => by have := ok4 t b hb; simp only [AH.bump_nx]; omega) ⟨A.r, A.b, A.c, A.v, A.x0, A.t1, A.t2, A.t3, A.t4, A.t5, A.t6⟩ (by omega) hwd bv fun x' h' A' kp nx => ?_
   rw [← ss] at A'
   refine s_go (by simp (disch := omega) only [List.drop_succ_cons, List.drop_zero, RG86, EVA, plug, eq_self, simprocAttr]; with_reducible rfl) ?_
   refine r_done ?_
   repeat' first | (with_reducible first | refine k_seq ?_ | refine k_skip ?_ | refine k_blkS ?_ | refine k_blkR ?_ | refine k_blkC ?_ | refine k_blkH ?_ | refine k_blkB ?_ | refine k_blkK ?_ | refine k_blkE ?_ | refine k_reg ?_) | with_reducible refine r_done ?_ | with_reducible refine s_go (by simp (disch := omega) only [w1, RG86, EVA, plug, eq_self, simprocAttr]; with_reducible rfl) ?_ | ((with_reducible refine chk_r ?_); refine r_callF (by simp only [CA, simprocAttr]; rfl) (by exact rfl) (by simp only [CA, simprocAttr]; rfl) rfl ?_) | (with_reducible refine k_condP (by simp only [GA, simprocAttr]; rfl) (by first | (simp only [BO]; rfl) | rfl) (fun ht => ?_) (fun ht => ?_) <;> try (first | exact False.elim ht | exact absurd rfl ht | exact absurd trivial ht | exact Bool.noConfusion ht)) | (with_reducible refine k_ret ?_; repeat with_reducible (first | refine ret_thru ?_ | refine ret_blk ?_ | refine fin ?_)) | (with_reducible refine k_exit ?_; repeat with_reducible (first | refine thru ?_ | refine out_blk ?_ | refine pass (by decide) ?_)) | ((first | refine post1 ?_ | refine post2 ?_ | refine post3 ?_); simp only [GA, simprocAttr]) | refine post0 ?_
   exact ⟨klt, x', (by simp only [Am.keep, List.map_cons, List.map_nil, GA, simprocAttr]; simp; omega), ⟨A'.r, A'.b, A'.c, A'.v, A'.x0, A'.t1, A'.t2, A'.t3, A'.t4, A'.t5, A'.t6⟩⟩
  ·obtain rfl : k = S.length := by omega
   have c1 : ¬ (0 : Int) ≤ (S.length : Int) - 1 - S.length := by omega
   repeat' first | (with_reducible first | refine k_seq ?_ | refine k_skip ?_ | refine k_blkS ?_ | refine k_blkR ?_ | refine k_blkC ?_ | refine k_blkH ?_ | refine k_blkB ?_ | refine k_blkK ?_ | refine k_blkE ?_ | refine k_reg ?_) | with_reducible refine r_done ?_ | with_reducible refine s_go (by simp (disch := omega) only [c1, RG86, EVA, plug, eq_self, simprocAttr]; with_reducible rfl) ?_ | ((with_reducible refine chk_r ?_); refine r_callF (by simp only [CA, simprocAttr]; rfl) (by exact rfl) (by simp only [CA, simprocAttr]; rfl) rfl ?_) | (with_reducible refine k_condP (by simp only [GA, simprocAttr]; rfl) (by first | (simp only [BO]; rfl) | rfl) (fun ht => ?_) (fun ht => ?_) <;> try (first | exact False.elim ht | exact absurd rfl ht | exact absurd trivial ht | exact Bool.noConfusion ht)) | (with_reducible refine k_ret ?_; repeat with_reducible (first | refine ret_thru ?_ | refine ret_blk ?_ | refine fin ?_)) | (with_reducible refine k_exit ?_; repeat with_reducible (first | refine thru ?_ | refine out_blk ?_ | refine pass (by decide) ?_)) | ((first | refine post1 ?_ | refine post2 ?_ | refine post3 ?_); simp only [GA, simprocAttr]) | refine post0 ?_
   rw [sl] at A
   exact ⟨A.r, end10 (by have := stabL_len l w l.length; omega) ⟨A.r, A.b, A.c, A.v, A.x0, A.t1, A.t2, A.t3, A.t4, A.t5, A.t6⟩ hA⟩
 ·rw [if_pos he] at hA hB
  have he' := eq_false he
  refine k0_seq ?_
  repeat' first | (with_reducible first | refine k_seq ?_ | refine k_skip ?_ | refine k_blkS ?_ | refine k_blkR ?_ | refine k_blkC ?_ | refine k_blkH ?_ | refine k_blkB ?_ | refine k_blkK ?_ | refine k_blkE ?_ | refine k_reg ?_) | with_reducible refine r_done ?_ | with_reducible refine s_go (by simp (disch := omega) only [he', RG49, EVA, plug, eq_self, simprocAttr]; with_reducible rfl) ?_ | ((with_reducible refine chk_r ?_); refine r_callF (by simp only [CA, simprocAttr]; rfl) (by exact rfl) (by simp only [CA, simprocAttr]; rfl) rfl ?_) | (with_reducible refine k_condP (by simp only [GA, simprocAttr]; rfl) (by first | (simp only [BO]; rfl) | rfl) (fun ht => ?_) (fun ht => ?_) <;> try (first | exact False.elim ht | exact absurd rfl ht | exact absurd trivial ht | exact Bool.noConfusion ht)) | (with_reducible refine k_ret ?_; repeat with_reducible (first | refine ret_thru ?_ | refine ret_blk ?_ | refine fin ?_)) | (with_reducible refine k_exit ?_; repeat with_reducible (first | refine thru ?_ | refine out_blk ?_ | refine pass (by decide) ?_)) | ((first | refine post1 ?_ | refine post2 ?_ | refine post3 ?_); simp only [GA, simprocAttr]) | refine post0 ?_
  exact hB rfl _
theorem n10 (l : List Int) (hl : l.length ≤ 9223372036854775807) (w : Int) (h : AH) : FCalls Tryd.prog 49 [vi l, .i .i64 w] h (some ([], [.i .i64 (stabR l w).2])) (stabR l w).1.length 1 (il (stabR l w).1) := by
 refine fresh_call rfl (il_plain _) fun h0 hr _ => ?_
 refine a10 l hl w (fun x h2 hx => ⟨_, rfl, x, 0, 1, rfl, .inr ⟨_, rfl, hx, by rw [il_len]; omega, by rw [List.drop_zero, List.take_of_length_le (by rw [il_len]; omega)]⟩⟩) (fun e h2 => ?_) h0
 rw [e]
 exact ⟨_, rfl, 0, 0, 0, rfl, .inl ⟨rfl, rfl, rfl⟩⟩
end Go.Proofs.YtjaihaccehaicaaDoor
set_option linter.unusedVariables false
set_option linter.unusedSimpArgs false
namespace Go.Proofs.YtjaihaccehaicaaDoor
open Go Go.Am Go.Proofs
theorem RG14 : (type_of% @c14r0.eq_1) ∧ (type_of% @c14r1.eq_1) ∧ (type_of% @c14r2.eq_1) ∧ (type_of% @c14r3.eq_1) ∧ (type_of% @c14r4.eq_1) ∧ (type_of% @c14r5.eq_1) ∧ (type_of% @c14r6.eq_1) ∧ (type_of% @c14r7.eq_1) ∧ (type_of% @c14r8.eq_1) ∧ (type_of% @c14r10.eq_1) := ⟨@c14r0.eq_1, @c14r1.eq_1, @c14r2.eq_1, @c14r3.eq_1, @c14r4.eq_1, @c14r5.eq_1, @c14r6.eq_1, @c14r7.eq_1, @c14r8.eq_1, @c14r10.eq_1⟩
theorem pc12 (l : List Int) (hl : l.length ≤ 9223372036854775807) : PC Tryd.prog 14 [vi l, vi l] (.b true) := by
 refine pc_fn fn14 (by simp only [AV.plains, AV.plain, il_plain, bl_plain, Bool.and_true, Bool.true_and, Bool.and_self, il_plain]) (by simp only [AV.plains, AV.plain, il_plain, bl_plain, Bool.and_true, Bool.true_and, Bool.and_self, il_plain]) (Nat.le_of_ble_eq_true rfl) ?_
 rw [initSt2]
 repeat' first | (with_reducible first | refine k_seq ?_ | refine k_skip ?_ | refine k_blkS ?_ | refine k_blkR ?_ | refine k_blkC ?_ | refine k_blkH ?_ | refine k_blkB ?_ | refine k_blkK ?_ | refine k_blkE ?_ | refine k_reg ?_) | with_reducible refine k_head (by with_unfolding_all rfl) ?_ | with_reducible refine k_headS ?_ | (with_reducible refine SepK.mk ?_ ?_; (refine sepQ_P ?_; simp [sepQ, sepG, AOp.late, AOp.free, AOp.xs, AOp.isAl, tokNe, AV.tok, stS_get, strip, AX.val, RG14, GA]; try omega)) | with_reducible refine r_done ?_ | with_reducible refine hr_done ?_ | with_reducible refine s_go (by simp (disch := omega) only [RG14, EVA, plug, eq_self, simprocAttr]; with_reducible rfl) ?_ | with_reducible refine h_go (by with_unfolding_all rfl) (by simp (disch := omega) only [RG14, EVA, plug, eq_self, simprocAttr]; with_reducible rfl) ?_ | ((with_reducible refine chk_r ?_); refine r_callF (by simp only [CA, simprocAttr]; rfl) (by exact rfl) (by simp only [CA, simprocAttr]; rfl) rfl ?_) | ((with_reducible refine chk_h ?_); refine hr_callF (by simp only [CA, simprocAttr]; rfl) (by exact rfl) (by simp only [CA, simprocAttr]; rfl) rfl ?_) | ((with_reducible refine chk_h ?_); refine hr_app (by simp (disch := omega) only [RG14, EVA, plug, eq_self, simprocAttr]; with_reducible rfl) rfl ?_) | (with_reducible refine k_condP (by simp only [GA, simprocAttr]; rfl) (by first | (simp only [BO]; rfl) | rfl) (fun ht => ?_) (fun ht => ?_) <;> try (first | exact False.elim ht | exact absurd rfl ht | exact absurd trivial ht | exact Bool.noConfusion ht)) | (with_reducible refine k_ret ?_; repeat with_reducible (first | refine ret_thru ?_ | refine ret_blk ?_ | refine fin ?_)) | (with_reducible refine k_exit ?_; repeat with_reducible (first | refine thru ?_ | refine out_blk ?_ | refine pass (by decide) ?_)) | ((first | refine post1 ?_ | refine post2 ?_ | refine post3 ?_); simp only [GA, simprocAttr]) | refine post0 ?_
 refine k_blk (k_loopS (X := Unit) [0, 1, 12, 13] l.length (fun k _ => [(0, vi l), (1, vi l), (12, .i .i64 l.length), (13, .i .i64 (k : Int))]) (fun k _ h => True) () (by simp only [Am.keep, List.map_cons, List.map_nil, GA, simprocAttr]; try rfl) trivial ?_)
 rintro k _ h hk - ok pos
 by_cases klt : k < l.length
 ·have klt' : (k : Int) < l.length := by omega
  have g := il_get klt
  repeat' first | (with_reducible first | refine k_seq ?_ | refine k_skip ?_ | refine k_blkS ?_ | refine k_blkR ?_ | refine k_blkC ?_ | refine k_blkH ?_ | refine k_blkB ?_ | refine k_blkK ?_ | refine k_blkE ?_ | refine k_reg ?_) | with_reducible refine k_head (by with_unfolding_all rfl) ?_ | with_reducible refine k_headS ?_ | (with_reducible refine SepK.mk ?_ ?_; (refine sepQ_P ?_; simp [sepQ, sepG, AOp.late, AOp.free, AOp.xs, AOp.isAl, tokNe, AV.tok, stS_get, strip, AX.val, RG14, GA]; try omega)) | with_reducible refine r_done ?_ | with_reducible refine hr_done ?_ | with_reducible refine s_go (by simp (disch := omega) only [klt', g, RG14, EVA, plug, eq_self, simprocAttr]; with_reducible rfl) ?_ | with_reducible refine h_go (by with_unfolding_all rfl) (by simp (disch := omega) only [klt', g, RG14, EVA, plug, eq_self, simprocAttr]; with_reducible rfl) ?_ | ((with_reducible refine chk_r ?_); refine r_callF (by simp only [CA, simprocAttr]; rfl) (by exact rfl) (by simp only [CA, simprocAttr]; rfl) rfl ?_) | ((with_reducible refine chk_h ?_); refine hr_callF (by simp only [CA, simprocAttr]; rfl) (by exact rfl) (by simp only [CA, simprocAttr]; rfl) rfl ?_) | ((with_reducible refine chk_h ?_); refine hr_app (by simp (disch := omega) only [klt', g, RG14, EVA, plug, eq_self, simprocAttr]; with_reducible rfl) rfl ?_) | (with_reducible refine k_condP (by simp only [GA, simprocAttr]; rfl) (by first | (simp only [BO]; rfl) | rfl) (fun ht => ?_) (fun ht => ?_) <;> try (first | exact False.elim ht | exact absurd rfl ht | exact absurd trivial ht | exact Bool.noConfusion ht)) | (with_reducible refine k_ret ?_; repeat with_reducible (first | refine ret_thru ?_ | refine ret_blk ?_ | refine fin ?_)) | (with_reducible refine k_exit ?_; repeat with_reducible (first | refine thru ?_ | refine out_blk ?_ | refine pass (by decide) ?_)) | ((first | refine post1 ?_ | refine post2 ?_ | refine post3 ?_); simp only [GA, simprocAttr]) | refine post0 ?_
  exact ⟨klt, (), (by simp only [Am.keep, List.map_cons, List.map_nil, GA, simprocAttr]; try rfl), trivial⟩
 ·obtain rfl : k = l.length := by omega
  have klt' : ¬ (l.length : Int) < l.length := by omega
  repeat' first | (with_reducible first | refine k_seq ?_ | refine k_skip ?_ | refine k_blkS ?_ | refine k_blkR ?_ | refine k_blkC ?_ | refine k_blkH ?_ | refine k_blkB ?_ | refine k_blkK ?_ | refine k_blkE ?_ | refine k_reg ?_) | with_reducible refine k_head (by with_unfolding_all rfl) ?_ | with_reducible refine k_headS ?_ | (with_reducible refine SepK.mk ?_ ?_; (refine sepQ_P ?_; simp [sepQ, sepG, AOp.late, AOp.free, AOp.xs, AOp.isAl, tokNe, AV.tok, stS_get, strip, AX.val, RG14, GA]; try omega)) | with_reducible refine r_done ?_ | with_reducible refine hr_done ?_ | with_reducible refine s_go (by simp (disch := omega) only [klt', RG14, EVA, plug, eq_self, simprocAttr]; with_reducible rfl) ?_ | with_reducible refine h_go (by with_unfolding_all rfl) (by simp (disch := omega) only [klt', RG14, EVA, plug, eq_self, simprocAttr]; with_reducible rfl) ?_ | ((with_reducible refine chk_r ?_); refine r_callF (by simp only [CA, simprocAttr]; rfl) (by exact rfl) (by simp only [CA, simprocAttr]; rfl) rfl ?_) | ((with_reducible refine chk_h ?_); refine hr_callF (by simp only [CA, simprocAttr]; rfl) (by exact rfl) (by simp only [CA, simprocAttr]; rfl) rfl ?_) | ((with_reducible refine chk_h ?_); refine hr_app (by simp (disch := omega) only [klt', RG14, EVA, plug, eq_self, simprocAttr]; with_reducible rfl) rfl ?_) | (with_reducible refine k_condP (by simp only [GA, simprocAttr]; rfl) (by first | (simp only [BO]; rfl) | rfl) (fun ht => ?_) (fun ht => ?_) <;> try (first | exact False.elim ht | exact absurd rfl ht | exact absurd trivial ht | exact Bool.noConfusion ht)) | (with_reducible refine k_ret ?_; repeat with_reducible (first | refine ret_thru ?_ | refine ret_blk ?_ | refine fin ?_)) | (with_reducible refine k_exit ?_; repeat with_reducible (first | refine thru ?_ | refine out_blk ?_ | refine pass (by decide) ?_)) | ((first | refine post1 ?_ | refine post2 ?_ | refine post3 ?_); simp only [GA, simprocAttr]) | refine post0 ?_
  all_goals first | exact ends_of | exact ends_eq rfl
theorem n10t (t a : Nat) (l : List Int) (hl : l.length ≤ 9223372036854775807) (w : Int) (h : AH) (hm : h.row t = some (il l)) : FCalls Tryd.prog 49 [.sl t 0 l.length a, .i .i64 w] h (some ([], [.i .i64 (stabR l w).2])) (stabR l w).1.length 1 (il (stabR l w).1) :=
 (n10 l hl w H1).at rfl (by
  generalize (stabR l w).1 = o
  induction o with
  | nil => rfl
  | cons x o ih => simp only [il, List.map_cons, AV.scals, AV.scal, Bool.true_and]; exact ih) (.cons (.row hm (il_plain _)) (.cons (.same rfl) .nil))
theorem stab_awake : stabR [1, 2, 4, 7, 8] 3 = ([1, 5], 0) := by
 have s : srtZ [1, 2, 4, 7, 8] = [1, 2, 4, 7, 8] := List.mergeSort_of_pairwise (by simp)
 have a : anyZ farZ [1, 2, 4, 7, 8] = false := by decide
 have v : valR [1, 2, 4, 7, 8] 3 = ([1, 2, 4, 7, 8], 0) := by
  unfold valR
  rw [if_neg (by decide), if_neg (by rw [a]; decide), s]
 unfold stabR stabL
 rw [v, s]
 decide
theorem f17 (h : AH) : ACalls Tryd.prog 17 [] h fun r h' => r = .b true ∧ h' = h := by
 refine pure_callV rfl fun h0 hr _ => ?_
 refine a_fn fn17 (by simp) fun ok pos => ?_
 rw [initSt0]
 have q10 := fun t a h hm => n10t t a [1, 2, 4, 7, 8] (by decide) 3 h hm
 rw [stab_awake] at q10
 have q12 := pc12 [1, 5] (by decide)
 have il5 : il [1, 2, 4, 7, 8] = [.i .i64 1, .i .i64 2, .i .i64 4, .i .i64 7, .i .i64 8] := rfl
 have il2 : il [1, 5] = [.i .i64 1, .i .i64 5] := rfl
 rw [il5] at q10
 simp only [il2, List.length_cons, List.length_nil, Nat.zero_add, Nat.reduceAdd] at q10 q12
 repeat' first | (with_reducible first | refine k_seq ?_ | refine k_skip ?_ | refine k_blkS ?_ | refine k_blkR ?_ | refine k_blkC ?_ | refine k_blkH ?_ | refine k_blkB ?_ | refine k_blkK ?_ | refine k_blkE ?_ | refine k_reg ?_) | with_reducible refine r_done ?_ | with_reducible refine s_go (by simp (disch := omega) only [c17r0, c17r1, c17r2, EVA, plug, eq_self, simprocAttr]; with_reducible rfl) ?_ | ((with_reducible refine chk_r ?_); refine r_callF (by simp only [CA, simprocAttr]; rfl) (by exact rfl) (by simp only [CA, simprocAttr]; rfl) rfl ?_) | ((with_reducible refine chk_r ?_); refine r_callP (by simp only [CA, simprocAttr]; rfl) (by simp only [CA, simprocAttr]; rfl) (by first | ((refine PC.at q12 rfl ?F; case F => (refine .cons (.row (by simp (disch := omega) only [c17r0, c17r1, c17r2, EVA, plug, eq_self, simprocAttr] <;> rfl) rfl) (.cons (.row (by simp (disch := omega) only [c17r0, c17r1, c17r2, EVA, plug, eq_self, simprocAttr] <;> rfl) rfl) .nil))); all_goals fail)) rfl ?_) | ((with_reducible refine chk_r ?_); refine r_callG (by simp only [CA, simprocAttr]; rfl) (by simp only [CA, simprocAttr]; rfl) (by simp only [CA, simprocAttr]; rfl) (by intro hg; (try simp only [BO] at hg); first | ((refine PC.at q12 rfl ?F; case F => (refine .cons (.row (by simp (disch := omega) only [c17r0, c17r1, c17r2, EVA, plug, eq_self, simprocAttr] <;> rfl) rfl) (.cons (.row (by simp (disch := omega) only [c17r0, c17r1, c17r2, EVA, plug, eq_self, simprocAttr] <;> rfl) rfl) .nil))); all_goals fail)) rfl ?_) | ((with_reducible refine chk_r ?_); refine r_callTN (by first | (simp only [CA, simprocAttr]; rfl) | simp only [CA, simprocAttr]) (by simp only [CA, simprocAttr]; rfl) (by simp only [CA, simprocAttr]; rfl) (by first | exact q10 _ _ _ (by simp (disch := omega) only [c17r0, c17r1, c17r2, EVA, plug, eq_self, simprocAttr] <;> rfl)) rfl ?_) | ((with_reducible refine chk_r ?_); refine r_callN (by simp only [CA, simprocAttr]; rfl) (by simp only [CA, simprocAttr]; rfl) (by first | exact q10 _ _ _ (by simp (disch := omega) only [c17r0, c17r1, c17r2, EVA, plug, eq_self, simprocAttr] <;> rfl)) rfl ?_) | (with_reducible refine k_condP (by simp only [GA, simprocAttr]; rfl) (by first | (simp only [BO]; rfl) | rfl) (fun ht => ?_) (fun ht => ?_) <;> try (first | exact False.elim ht | exact absurd rfl ht | exact absurd trivial ht | exact Bool.noConfusion ht)) | (with_reducible refine k_ret ?_; repeat with_reducible (first | refine ret_thru ?_ | refine ret_blk ?_ | refine fin ?_)) | (with_reducible refine k_exit ?_; repeat with_reducible (first | refine thru ?_ | refine out_blk ?_ | refine pass (by decide) ?_)) | ((first | refine post1 ?_ | refine post2 ?_ | refine post3 ?_); simp only [GA, simprocAttr]) | refine post0 ?_
 all_goals first | exact ends_of | exact ends_eq rfl
end Go.Proofs.YtjaihaccehaicaaDoor
set_option linter.unusedVariables false
set_option linter.unusedSimpArgs false
namespace Go.Proofs.YtjaihaccehaicaaDoor
open Go Go.Am Go.Proofs
abbrev e5 (F : Nat → Int) : List AV := [.i .i64 (F 0), .i .i64 (F 1), .i .i64 (F 2), .i .i64 (F 3), .i .i64 (F 4)]
theorem e5_get {F : Nat → Int} {k : Nat} (h : k < 5) : [AV.i .i64 (F 0), .i .i64 (F 1), .i .i64 (F 2), .i .i64 (F 3), .i .i64 (F 4)][k]? = some (.i .i64 (F k)) := by
 rcases k with _ | _ | _ | _ | _ | k <;> first | rfl | omega
structure Sz where
 c : Int
 F : Nat → Int
 T : Nat → Int
 B : Nat → Int
 t : Int
abbrev eZ (s : Sz) : List AV := [.i .i64 s.c, .i .i64 (s.F 0), .i .i64 (s.F 1), .i .i64 (s.F 2), .i .i64 (s.F 3), .i .i64 (s.F 4), .i .i64 (s.T 0), .i .i64 (s.T 1), .i .i64 (s.T 2), .i .i64 (s.T 3), .i .i64 (s.T 4), .i .i64 (s.B 0), .i .i64 (s.B 1), .i .i64 (s.B 2), .i .i64 (s.B 3), .i .i64 (s.B 4), .i .i64 s.t]
theorem eZ_F (s : Sz) {k : Nat} (h : k < 5) : (eZ s)[1 + k]? = some (.i .i64 (s.F k)) := by
 rcases k with _ | _ | _ | _ | _ | k <;> first | rfl | omega
theorem eZ_T (s : Sz) {k : Nat} (h : k < 5) : (eZ s)[6 + k]? = some (.i .i64 (s.T k)) := by
 rcases k with _ | _ | _ | _ | _ | k <;> first | rfl | omega
theorem eZ_B (s : Sz) {k : Nat} (h : k < 5) : (eZ s)[11 + k]? = some (.i .i64 (s.B k)) := by
 rcases k with _ | _ | _ | _ | _ | k <;> first | rfl | omega
def szP (s : Sz) : Nat → Bool
 | 0 => (decide (1 ≤ s.c) && decide (s.c ≤ 1000000000)) && (decide (0 ≤ s.t) && decide (s.t ≤ 500))
 | k + 1 => szP s k && decide (0 ≤ s.F k) && decide (s.F k ≤ s.T k) && decide (s.T k ≤ 3000) && (decide (0 ≤ s.B k) && decide (s.B k ≤ 100))
def szOk (s : Sz) : Bool := szP s 5
theorem szP_iff {s : Sz} : ∀ {k : Nat}, szP s k = true ↔ (1 ≤ s.c ∧ s.c ≤ 1000000000 ∧ 0 ≤ s.t ∧ s.t ≤ 500) ∧ ∀ i, i < k → 0 ≤ s.F i ∧ s.F i ≤ s.T i ∧ s.T i ≤ 3000 ∧ 0 ≤ s.B i ∧ s.B i ≤ 100
 | 0 => by simp only [szP, Bool.and_eq_true, decide_eq_true_eq]; constructor <;> intro h <;> exact ⟨by omega, by omega⟩
 | k + 1 => by
   simp only [szP, Bool.and_eq_true, szP_iff (k := k), decide_eq_true_eq]
   constructor
   ·rintro ⟨⟨⟨⟨⟨h1, h2⟩, h3⟩, h4⟩, h5⟩, h6⟩
    refine ⟨h1, fun i hi => ?_⟩
    by_cases e : i = k
    ·subst e; omega
    ·exact h2 i (by omega)
   ·rintro ⟨h1, h2⟩
    have := h2 k (by omega)
    exact ⟨⟨⟨⟨⟨h1, fun i hi => h2 i (by omega)⟩, by omega⟩, by omega⟩, by omega⟩, by omega⟩
theorem szOk_iff {s : Sz} : szOk s = true ↔ (1 ≤ s.c ∧ s.c ≤ 1000000000 ∧ 0 ≤ s.t ∧ s.t ≤ 500) ∧ ∀ i, i < 5 → 0 ≤ s.F i ∧ s.F i ≤ s.T i ∧ s.T i ≤ 3000 ∧ 0 ≤ s.B i ∧ s.B i ≤ 100 := szP_iff
theorem RG30 : (type_of% @c30r0.eq_1) ∧ (type_of% @c30r1.eq_1) ∧ (type_of% @c30r2.eq_1) ∧ (type_of% @c30r3.eq_1) ∧ (type_of% @c30r4.eq_1) ∧ (type_of% @c30r5.eq_1) ∧ (type_of% @c30r6.eq_1) ∧ (type_of% @c30r8.eq_1) := ⟨@c30r0.eq_1, @c30r1.eq_1, @c30r2.eq_1, @c30r3.eq_1, @c30r4.eq_1, @c30r5.eq_1, @c30r6.eq_1, @c30r8.eq_1⟩
theorem pc39 (s : Sz) : PC Tryd.prog 30 [.ag (eZ s)] (.b (szOk s)) := by
 refine pc_fn fn30 (by simp only [AV.plains, AV.plain, il_plain, bl_plain, Bool.and_true, Bool.true_and, Bool.and_self]) (by simp only [AV.plains, AV.plain, il_plain, bl_plain, Bool.and_true, Bool.true_and, Bool.and_self]) (Nat.le_of_ble_eq_true rfl) ?_
 rw [initSt1]
 repeat' first | (with_reducible first | refine k_seq ?_ | refine k_skip ?_ | refine k_blkS ?_ | refine k_blkR ?_ | refine k_blkC ?_ | refine k_blkH ?_ | refine k_blkB ?_ | refine k_blkK ?_ | refine k_blkE ?_ | refine k_reg ?_) | with_reducible refine k_head (by with_unfolding_all rfl) ?_ | with_reducible refine k_headS ?_ | (with_reducible refine SepK.mk ?_ ?_; (refine sepQ_P ?_; simp [sepQ, sepG, AOp.late, AOp.free, AOp.xs, AOp.isAl, tokNe, AV.tok, stS_get, strip, AX.val, RG30, GA]; try omega)) | with_reducible refine r_done ?_ | with_reducible refine hr_done ?_ | with_reducible refine s_go (by simp (disch := omega) only [RG30, EVA, plug, eq_self, simprocAttr]; with_reducible rfl) ?_ | with_reducible refine h_go (by with_unfolding_all rfl) (by simp (disch := omega) only [RG30, EVA, plug, eq_self, simprocAttr]; with_reducible rfl) ?_ | ((with_reducible refine chk_r ?_); refine r_callF (by simp only [CA, simprocAttr]; rfl) (by exact rfl) (by simp only [CA, simprocAttr]; rfl) rfl ?_) | ((with_reducible refine chk_h ?_); refine hr_callF (by simp only [CA, simprocAttr]; rfl) (by exact rfl) (by simp only [CA, simprocAttr]; rfl) rfl ?_) | ((with_reducible refine chk_r ?_); refine r_callP (by simp only [CA, simprocAttr]; rfl) (by simp only [CA, simprocAttr]; rfl) (by first | exact pc37 _ _ _ _) rfl ?_) | ((with_reducible refine chk_h ?_); refine hr_callP (by simp only [CA, simprocAttr]; rfl) (by simp only [CA, simprocAttr]; rfl) (by first | exact pc37 _ _ _ _) rfl ?_) | ((with_reducible refine chk_h ?_); refine hr_callP1 (by simp only [CA, simprocAttr]; rfl) (by simp only [CA, simprocAttr]; rfl) (by simp (disch := omega) only [CA, Nat.reduceEqDiff, ↓reduceIte, firstTok_nil, firstTok_sl, firstTok_sl0, firstTok_i, firstTok_b, firstTok_ag, firstTok_p, firstTok_s]; rfl) (by first | exact pc37 _ _ _ _) rfl ?_) | ((with_reducible refine chk_r ?_); refine r_callG (by simp only [CA, simprocAttr]; rfl) (by simp only [CA, simprocAttr]; rfl) (by simp only [CA, simprocAttr]; rfl) (by intro hg; (try simp only [BO] at hg); first | exact pc37 _ _ _ _) rfl ?_) | ((with_reducible refine chk_h ?_); refine hr_callG (by simp only [CA, simprocAttr]; rfl) (by simp only [CA, simprocAttr]; rfl) (by simp only [CA, simprocAttr]; rfl) (by intro hg; (try simp only [BO] at hg); first | exact pc37 _ _ _ _) rfl ?_) | ((with_reducible refine chk_h ?_); refine hr_app (by simp (disch := omega) only [RG30, EVA, plug, eq_self, simprocAttr]; with_reducible rfl) rfl ?_) | (with_reducible refine k_condP (by simp only [GA, simprocAttr]; rfl) (by first | (simp only [BO]; rfl) | rfl) (fun ht => ?_) (fun ht => ?_) <;> try (first | exact False.elim ht | exact absurd rfl ht | exact absurd trivial ht | exact Bool.noConfusion ht)) | (with_reducible refine k_ret ?_; repeat with_reducible (first | refine ret_thru ?_ | refine ret_blk ?_ | refine fin ?_)) | (with_reducible refine k_exit ?_; repeat with_reducible (first | refine thru ?_ | refine out_blk ?_ | refine pass (by decide) ?_)) | ((first | refine post1 ?_ | refine post2 ?_ | refine post3 ?_); simp only [GA, simprocAttr]) | refine post0 ?_
 refine k_blk (k_loopS (X := Unit) [1, 3, 13] 5 (fun k _ => [(1, .p 1 0), (3, .b (szP s k)), (13, .i .i64 (k : Int))]) (fun k _ h => h.m 1 = some (.cells true (eZ s))) () (by simp only [Am.keep, List.map_cons, List.map_nil, GA, simprocAttr]; try rfl) (by simp (disch := omega) only [RG30, EVA, plug, eq_self, simprocAttr] <;> rfl) ?_)
 rintro k _ h hk hm ok pos
 by_cases klt : k < 5
 ·have klt' : (k : Int) < 5 := by omega
  have g1 := eZ_F s klt
  have g2 := eZ_T s klt
  have g3 := eZ_B s klt
  repeat' first | (with_reducible first | refine k_seq ?_ | refine k_skip ?_ | refine k_blkS ?_ | refine k_blkR ?_ | refine k_blkC ?_ | refine k_blkH ?_ | refine k_blkB ?_ | refine k_blkK ?_ | refine k_blkE ?_ | refine k_reg ?_) | with_reducible refine k_head (by with_unfolding_all rfl) ?_ | with_reducible refine k_headS ?_ | (with_reducible refine SepK.mk ?_ ?_; (refine sepQ_P ?_; simp [sepQ, sepG, AOp.late, AOp.free, AOp.xs, AOp.isAl, tokNe, AV.tok, stS_get, strip, AX.val, RG30, GA]; try omega)) | with_reducible refine r_done ?_ | with_reducible refine hr_done ?_ | with_reducible refine s_go (by simp (disch := omega) only [klt', hm, row_m hm, read_row (row_m hm), g1, g2, g3, RG30, EVA, plug, eq_self, simprocAttr]; with_reducible rfl) ?_ | with_reducible refine h_go (by with_unfolding_all rfl) (by simp (disch := omega) only [klt', hm, row_m hm, read_row (row_m hm), g1, g2, g3, RG30, EVA, plug, eq_self, simprocAttr]; with_reducible rfl) ?_ | ((with_reducible refine chk_r ?_); refine r_callF (by simp only [CA, simprocAttr]; rfl) (by exact rfl) (by simp only [CA, simprocAttr]; rfl) rfl ?_) | ((with_reducible refine chk_h ?_); refine hr_callF (by simp only [CA, simprocAttr]; rfl) (by exact rfl) (by simp only [CA, simprocAttr]; rfl) rfl ?_) | ((with_reducible refine chk_r ?_); refine r_callP (by simp only [CA, simprocAttr]; rfl) (by simp only [CA, simprocAttr]; rfl) (by first | exact pc37 _ _ _ _) rfl ?_) | ((with_reducible refine chk_h ?_); refine hr_callP (by simp only [CA, simprocAttr]; rfl) (by simp only [CA, simprocAttr]; rfl) (by first | exact pc37 _ _ _ _) rfl ?_) | ((with_reducible refine chk_h ?_); refine hr_callP1 (by simp only [CA, simprocAttr]; rfl) (by simp only [CA, simprocAttr]; rfl) (by simp (disch := omega) only [CA, Nat.reduceEqDiff, ↓reduceIte, firstTok_nil, firstTok_sl, firstTok_sl0, firstTok_i, firstTok_b, firstTok_ag, firstTok_p, firstTok_s]; rfl) (by first | exact pc37 _ _ _ _) rfl ?_) | ((with_reducible refine chk_r ?_); refine r_callG (by simp only [CA, simprocAttr]; rfl) (by simp only [CA, simprocAttr]; rfl) (by simp only [CA, simprocAttr]; rfl) (by intro hg; (try simp only [BO] at hg); first | exact pc37 _ _ _ _) rfl ?_) | ((with_reducible refine chk_h ?_); refine hr_callG (by simp only [CA, simprocAttr]; rfl) (by simp only [CA, simprocAttr]; rfl) (by simp only [CA, simprocAttr]; rfl) (by intro hg; (try simp only [BO] at hg); first | exact pc37 _ _ _ _) rfl ?_) | ((with_reducible refine chk_h ?_); refine hr_app (by simp (disch := omega) only [klt', hm, row_m hm, read_row (row_m hm), g1, g2, g3, RG30, EVA, plug, eq_self, simprocAttr]; with_reducible rfl) rfl ?_) | (with_reducible refine k_condP (by simp only [GA, simprocAttr]; rfl) (by first | (simp only [BO]; rfl) | rfl) (fun ht => ?_) (fun ht => ?_) <;> try (first | exact False.elim ht | exact absurd rfl ht | exact absurd trivial ht | exact Bool.noConfusion ht)) | (with_reducible refine k_ret ?_; repeat with_reducible (first | refine ret_thru ?_ | refine ret_blk ?_ | refine fin ?_)) | (with_reducible refine k_exit ?_; repeat with_reducible (first | refine thru ?_ | refine out_blk ?_ | refine pass (by decide) ?_)) | ((first | refine post1 ?_ | refine post2 ?_ | refine post3 ?_); simp only [GA, simprocAttr]) | refine post0 ?_
  exact ⟨klt, (), (by simp only [Am.keep, List.map_cons, List.map_nil, GA, simprocAttr]; try rfl), hm⟩
 ·obtain rfl : k = 5 := by omega
  have klt' : ¬ ((5 : Nat) : Int) < 5 := by omega
  repeat' first | (with_reducible first | refine k_seq ?_ | refine k_skip ?_ | refine k_blkS ?_ | refine k_blkR ?_ | refine k_blkC ?_ | refine k_blkH ?_ | refine k_blkB ?_ | refine k_blkK ?_ | refine k_blkE ?_ | refine k_reg ?_) | with_reducible refine k_head (by with_unfolding_all rfl) ?_ | with_reducible refine k_headS ?_ | (with_reducible refine SepK.mk ?_ ?_; (refine sepQ_P ?_; simp [sepQ, sepG, AOp.late, AOp.free, AOp.xs, AOp.isAl, tokNe, AV.tok, stS_get, strip, AX.val, RG30, GA]; try omega)) | with_reducible refine r_done ?_ | with_reducible refine hr_done ?_ | with_reducible refine s_go (by simp (disch := omega) only [klt', RG30, EVA, plug, eq_self, simprocAttr]; with_reducible rfl) ?_ | with_reducible refine h_go (by with_unfolding_all rfl) (by simp (disch := omega) only [klt', RG30, EVA, plug, eq_self, simprocAttr]; with_reducible rfl) ?_ | ((with_reducible refine chk_r ?_); refine r_callF (by simp only [CA, simprocAttr]; rfl) (by exact rfl) (by simp only [CA, simprocAttr]; rfl) rfl ?_) | ((with_reducible refine chk_h ?_); refine hr_callF (by simp only [CA, simprocAttr]; rfl) (by exact rfl) (by simp only [CA, simprocAttr]; rfl) rfl ?_) | ((with_reducible refine chk_h ?_); refine hr_app (by simp (disch := omega) only [klt', RG30, EVA, plug, eq_self, simprocAttr]; with_reducible rfl) rfl ?_) | (with_reducible refine k_condP (by simp only [GA, simprocAttr]; rfl) (by first | (simp only [BO]; rfl) | rfl) (fun ht => ?_) (fun ht => ?_) <;> try (first | exact False.elim ht | exact absurd rfl ht | exact absurd trivial ht | exact Bool.noConfusion ht)) | (with_reducible refine k_ret ?_; repeat with_reducible (first | refine ret_thru ?_ | refine ret_blk ?_ | refine fin ?_)) | (with_reducible refine k_exit ?_; repeat with_reducible (first | refine thru ?_ | refine out_blk ?_ | refine pass (by decide) ?_)) | ((first | refine post1 ?_ | refine post2 ?_ | refine post3 ?_); simp only [GA, simprocAttr]) | refine post0 ?_
  all_goals first | exact ends_of | exact ends_eq rfl
theorem RG33 : (type_of% @c33r0.eq_1) ∧ (type_of% @c33r1.eq_1) ∧ (type_of% @c33r2.eq_1) ∧ (type_of% @c33r3.eq_1) ∧ (type_of% @c33r4.eq_1) ∧ (type_of% @c33r5.eq_1) ∧ (type_of% @c33r6.eq_1) ∧ (type_of% @c33r8.eq_1) := ⟨@c33r0.eq_1, @c33r1.eq_1, @c33r2.eq_1, @c33r3.eq_1, @c33r4.eq_1, @c33r5.eq_1, @c33r6.eq_1, @c33r8.eq_1⟩
theorem pc40 (s : Sz) : PC Tryd.prog 33 [.ag (eZ s)] (.b (szOk s)) := by
 refine pc_fn fn33 (by simp only [AV.plains, AV.plain, il_plain, bl_plain, Bool.and_true, Bool.true_and, Bool.and_self]) (by simp only [AV.plains, AV.plain, il_plain, bl_plain, Bool.and_true, Bool.true_and, Bool.and_self]) (Nat.le_of_ble_eq_true rfl) ?_
 rw [initSt1]
 repeat' first | (with_reducible first | refine k_seq ?_ | refine k_skip ?_ | refine k_blkS ?_ | refine k_blkR ?_ | refine k_blkC ?_ | refine k_blkH ?_ | refine k_blkB ?_ | refine k_blkK ?_ | refine k_blkE ?_ | refine k_reg ?_) | with_reducible refine k_head (by with_unfolding_all rfl) ?_ | with_reducible refine k_headS ?_ | (with_reducible refine SepK.mk ?_ ?_; (refine sepQ_P ?_; simp [sepQ, sepG, AOp.late, AOp.free, AOp.xs, AOp.isAl, tokNe, AV.tok, stS_get, strip, AX.val, RG33, GA]; try omega)) | with_reducible refine r_done ?_ | with_reducible refine hr_done ?_ | with_reducible refine s_go (by simp (disch := omega) only [RG33, EVA, plug, eq_self, simprocAttr]; with_reducible rfl) ?_ | with_reducible refine h_go (by with_unfolding_all rfl) (by simp (disch := omega) only [RG33, EVA, plug, eq_self, simprocAttr]; with_reducible rfl) ?_ | ((with_reducible refine chk_r ?_); refine r_callF (by simp only [CA, simprocAttr]; rfl) (by exact rfl) (by simp only [CA, simprocAttr]; rfl) rfl ?_) | ((with_reducible refine chk_h ?_); refine hr_callF (by simp only [CA, simprocAttr]; rfl) (by exact rfl) (by simp only [CA, simprocAttr]; rfl) rfl ?_) | ((with_reducible refine chk_h ?_); refine hr_app (by simp (disch := omega) only [RG33, EVA, plug, eq_self, simprocAttr]; with_reducible rfl) rfl ?_) | (with_reducible refine k_condP (by simp only [GA, simprocAttr]; rfl) (by first | (simp only [BO]; rfl) | rfl) (fun ht => ?_) (fun ht => ?_) <;> try (first | exact False.elim ht | exact absurd rfl ht | exact absurd trivial ht | exact Bool.noConfusion ht)) | (with_reducible refine k_ret ?_; repeat with_reducible (first | refine ret_thru ?_ | refine ret_blk ?_ | refine fin ?_)) | (with_reducible refine k_exit ?_; repeat with_reducible (first | refine thru ?_ | refine out_blk ?_ | refine pass (by decide) ?_)) | ((first | refine post1 ?_ | refine post2 ?_ | refine post3 ?_); simp only [GA, simprocAttr]) | refine post0 ?_
 refine k_blk (k_loopS (X := Unit) [1, 4] 5 (fun k _ => [(1, .p 1 0), (4, .i .i64 (k : Int))]) (fun k _ h => h.m 1 = some (.cells true (eZ s)) ∧ ∀ i, i < k → 0 ≤ s.F i ∧ s.F i ≤ s.T i ∧ s.T i ≤ 3000 ∧ 0 ≤ s.B i ∧ s.B i ≤ 100) () (by simp only [Am.keep, List.map_cons, List.map_nil, GA, simprocAttr]; try rfl) ⟨by simp (disch := omega) only [RG33, EVA, plug, eq_self, simprocAttr] <;> rfl, fun i hi => by omega⟩ ?_)
 rintro k _ h hk ⟨hm, hall⟩ ok pos
 by_cases klt : k < 5
 ·have klt' : (k : Int) < 5 := by omega
  have g1 := eZ_F s klt
  have g2 := eZ_T s klt
  have g3 := eZ_B s klt
  repeat' first | (with_reducible first | refine k_seq ?_ | refine k_skip ?_ | refine k_blkS ?_ | refine k_blkR ?_ | refine k_blkC ?_ | refine k_blkH ?_ | refine k_blkB ?_ | refine k_blkK ?_ | refine k_blkE ?_ | refine k_reg ?_) | with_reducible refine k_head (by with_unfolding_all rfl) ?_ | with_reducible refine k_headS ?_ | (with_reducible refine SepK.mk ?_ ?_; (refine sepQ_P ?_; simp [sepQ, sepG, AOp.late, AOp.free, AOp.xs, AOp.isAl, tokNe, AV.tok, stS_get, strip, AX.val, RG33, GA]; try omega)) | with_reducible refine r_done ?_ | with_reducible refine hr_done ?_ | with_reducible refine s_go (by simp (disch := omega) only [klt', hm, row_m hm, read_row (row_m hm), g1, g2, g3, RG33, EVA, plug, eq_self, simprocAttr]; with_reducible rfl) ?_ | with_reducible refine h_go (by with_unfolding_all rfl) (by simp (disch := omega) only [klt', hm, row_m hm, read_row (row_m hm), g1, g2, g3, RG33, EVA, plug, eq_self, simprocAttr]; with_reducible rfl) ?_ | ((with_reducible refine chk_r ?_); refine r_callF (by simp only [CA, simprocAttr]; rfl) (by exact rfl) (by simp only [CA, simprocAttr]; rfl) rfl ?_) | ((with_reducible refine chk_h ?_); refine hr_callF (by simp only [CA, simprocAttr]; rfl) (by exact rfl) (by simp only [CA, simprocAttr]; rfl) rfl ?_) | ((with_reducible refine chk_h ?_); refine hr_app (by simp (disch := omega) only [klt', hm, row_m hm, read_row (row_m hm), g1, g2, g3, RG33, EVA, plug, eq_self, simprocAttr]; with_reducible rfl) rfl ?_) | (with_reducible refine k_condP (by simp only [GA, simprocAttr]; rfl) (by first | (simp only [BO]; rfl) | rfl) (fun ht => ?_) (fun ht => ?_) <;> try (first | exact False.elim ht | exact absurd rfl ht | exact absurd trivial ht | exact Bool.noConfusion ht)) | (with_reducible refine k_ret ?_; repeat with_reducible (first | refine ret_thru ?_ | refine ret_blk ?_ | refine fin ?_)) | (with_reducible refine k_exit ?_; repeat with_reducible (first | refine thru ?_ | refine out_blk ?_ | refine pass (by decide) ?_)) | ((first | refine post1 ?_ | refine post2 ?_ | refine post3 ?_); simp only [GA, simprocAttr]) | refine post0 ?_
  ·have : szOk s = false := by
    cases q : szOk s with
    | false => rfl
    | true => have := (szOk_iff.1 q).2 k klt; omega
   rw [this]
   exact ends_of
  ·refine ⟨klt, (), (by simp only [Am.keep, List.map_cons, List.map_nil, GA, simprocAttr]; try rfl), hm, fun i hi => ?_⟩
   by_cases e : i = k
   ·subst e; omega
   ·exact hall i (by omega)
 ·obtain rfl : k = 5 := by omega
  have klt' : ¬ ((5 : Nat) : Int) < 5 := by omega
  repeat' first | (with_reducible first | refine k_seq ?_ | refine k_skip ?_ | refine k_blkS ?_ | refine k_blkR ?_ | refine k_blkC ?_ | refine k_blkH ?_ | refine k_blkB ?_ | refine k_blkK ?_ | refine k_blkE ?_ | refine k_reg ?_) | with_reducible refine k_head (by with_unfolding_all rfl) ?_ | with_reducible refine k_headS ?_ | (with_reducible refine SepK.mk ?_ ?_; (refine sepQ_P ?_; simp [sepQ, sepG, AOp.late, AOp.free, AOp.xs, AOp.isAl, tokNe, AV.tok, stS_get, strip, AX.val, RG33, GA]; try omega)) | with_reducible refine r_done ?_ | with_reducible refine hr_done ?_ | with_reducible refine s_go (by simp (disch := omega) only [klt', hm, row_m hm, read_row (row_m hm), RG33, EVA, plug, eq_self, simprocAttr]; with_reducible rfl) ?_ | with_reducible refine h_go (by with_unfolding_all rfl) (by simp (disch := omega) only [klt', hm, row_m hm, read_row (row_m hm), RG33, EVA, plug, eq_self, simprocAttr]; with_reducible rfl) ?_ | ((with_reducible refine chk_r ?_); refine r_callF (by simp only [CA, simprocAttr]; rfl) (by exact rfl) (by simp only [CA, simprocAttr]; rfl) rfl ?_) | ((with_reducible refine chk_h ?_); refine hr_callF (by simp only [CA, simprocAttr]; rfl) (by exact rfl) (by simp only [CA, simprocAttr]; rfl) rfl ?_) | ((with_reducible refine chk_h ?_); refine hr_app (by simp (disch := omega) only [klt', hm, row_m hm, read_row (row_m hm), RG33, EVA, plug, eq_self, simprocAttr]; with_reducible rfl) rfl ?_) | (with_reducible refine k_condP (by simp only [GA, simprocAttr]; rfl) (by first | (simp only [BO]; rfl) | rfl) (fun ht => ?_) (fun ht => ?_) <;> try (first | exact False.elim ht | exact absurd rfl ht | exact absurd trivial ht | exact Bool.noConfusion ht)) | (with_reducible refine k_ret ?_; repeat with_reducible (first | refine ret_thru ?_ | refine ret_blk ?_ | refine fin ?_)) | (with_reducible refine k_exit ?_; repeat with_reducible (first | refine thru ?_ | refine out_blk ?_ | refine pass (by decide) ?_)) | ((first | refine post1 ?_ | refine post2 ?_ | refine post3 ?_); simp only [GA, simprocAttr]) | refine post0 ?_
  refine ends_eq (b_eq ?_); rw [Bool.eq_iff_iff]
  rw [szOk_iff]
  simp only [Bool.and_eq_true, decide_eq_true_eq]
  exact ⟨fun q => by have := q.1; omega, fun q => ⟨by omega, hall⟩⟩
def Z0 : Sz := ⟨0, fun _ => 0, fun _ => 0, fun _ => 0, 0⟩
theorem eZ_len (s : Sz) : (eZ s).length = 17 := rfl
theorem eZ_rd (s : Sz) : rd (eZ s) 0 (some 17) = some (.ag (eZ s)) := rfl
theorem e5_rd (F : Nat → Int) : rd (e5 F) 0 (some 5) = some (.ag (e5 F)) := rfl
theorem eZ_rc (s : Sz) : rd (eZ s) 0 none = some (.i .i64 s.c) := rfl
theorem pc17 : PC Tryd.prog 17 [] (.b true) := fun h => f17 h
end Go.Proofs.YtjaihaccehaicaaDoor
set_option linter.unusedVariables false
set_option linter.unusedSimpArgs false
namespace Go.Proofs.YtjaihaccehaicaaDoor
open Go Go.Am Go.Proofs
structure Hd where
 n : Int
 M : Nat → Int
abbrev eH (h : Hd) : List AV := [.i .i64 h.n, .i .i64 (h.M 0), .i .i64 (h.M 1), .i .i64 (h.M 2), .i .i64 (h.M 3), .i .i64 (h.M 4)]
def H0 : Hd := ⟨0, fun _ => 0⟩
def farM (m : Int) : Bool := !(decide (0 ≤ m) && decide (m ≤ 3000))
theorem pc86 (x : Int) : PC Tryd.prog 67 [.i .i64 x] (.b (farM x)) := by
 refine pc_fn fn67 (by simp only [AV.plains, AV.plain, il_plain, bl_plain, Bool.and_true, Bool.true_and, Bool.and_self]) (by simp only [AV.plains, AV.plain, il_plain, bl_plain, Bool.and_true, Bool.true_and, Bool.and_self]) (Nat.le_of_ble_eq_true rfl) ?_
 rw [initSt1]
 repeat' first | (with_reducible first | refine k_seq ?_ | refine k_skip ?_ | refine k_blkS ?_ | refine k_blkR ?_ | refine k_blkC ?_ | refine k_blkH ?_ | refine k_blkB ?_ | refine k_blkK ?_ | refine k_blkE ?_ | refine k_reg ?_) | with_reducible refine r_done ?_ | with_reducible refine s_go (by simp (disch := omega) only [c67r0, c67r1, EVA, plug, eq_self, simprocAttr]; with_reducible rfl) ?_ | ((with_reducible refine chk_r ?_); refine r_callF (by simp only [CA, simprocAttr]; rfl) (by exact rfl) (by simp only [CA, simprocAttr]; rfl) rfl ?_) | ((with_reducible refine chk_r ?_); refine r_callP (by simp only [CA, simprocAttr]; rfl) (by simp only [CA, simprocAttr]; rfl) (by first | exact pc37 _ _ _ _) rfl ?_) | (with_reducible refine k_condP (by simp only [GA, simprocAttr]; rfl) (by first | (simp only [BO]; rfl) | rfl) (fun ht => ?_) (fun ht => ?_) <;> try (first | exact False.elim ht | exact absurd rfl ht | exact absurd trivial ht | exact Bool.noConfusion ht)) | (with_reducible refine k_ret ?_; repeat with_reducible (first | refine ret_thru ?_ | refine ret_blk ?_ | refine fin ?_)) | (with_reducible refine k_exit ?_; repeat with_reducible (first | refine thru ?_ | refine out_blk ?_ | refine pass (by decide) ?_)) | ((first | refine post1 ?_ | refine post2 ?_ | refine post3 ?_); simp only [GA, simprocAttr]) | refine post0 ?_
 all_goals first | exact ends_of | exact ends_eq rfl
def hdL (h : Hd) : List Int := [h.M 0, h.M 1, h.M 2, h.M 3, h.M 4]
def hdOk (h : Hd) : Bool := (decide (1 ≤ h.n) && decide (h.n ≤ 1000000000)) && !anyZ farM (hdL h)
theorem hdOk_iff {h : Hd} : hdOk h = true ↔ (1 ≤ h.n ∧ h.n ≤ 1000000000) ∧ ∀ i, i < 5 → 0 ≤ h.M i ∧ h.M i ≤ 3000 := by
 have e : anyZ farM (hdL h) = false ↔ ∀ i, i < 5 → 0 ≤ h.M i ∧ h.M i ≤ 3000 := by
  rw [← Bool.not_eq_true, anyZ_iff]
  simp only [hdL, farM, List.mem_cons, List.not_mem_nil, or_false, Bool.not_eq_true', Bool.and_eq_false_iff, decide_eq_false_iff_not]
  constructor
  ·intro hn i hi
   have : 0 ≤ h.M i ∧ h.M i ≤ 3000 := Classical.byContradiction fun q => hn ⟨h.M i, by rcases i with _ | _ | _ | _ | _ | i <;> first | simp | omega, by omega⟩
   exact this
  ·rintro hall ⟨x, hx, hf⟩
   have h0 := hall 0 (by omega)
   have h1 := hall 1 (by omega)
   have h2 := hall 2 (by omega)
   have h3 := hall 3 (by omega)
   have h4 := hall 4 (by omega)
   omega
 simp only [hdOk, Bool.and_eq_true, decide_eq_true_eq, Bool.not_eq_true', e]
theorem pc78 (x : Hd) : PC Tryd.prog 36 [.ag (eH x)] (.b (hdOk x)) := by
 refine pc_fn fn36 (by simp only [AV.plains, AV.plain, il_plain, bl_plain, Bool.and_true, Bool.true_and, Bool.and_self]) (by simp only [AV.plains, AV.plain, il_plain, bl_plain, Bool.and_true, Bool.true_and, Bool.and_self]) (Nat.le_of_ble_eq_true rfl) ?_
 rw [initSt1]
 have q35 := pc35 (hdL x) (by simp [hdL]) 67 [] rfl farM pc86
 repeat' first | (with_reducible first | refine k_seq ?_ | refine k_skip ?_ | refine k_blkS ?_ | refine k_blkR ?_ | refine k_blkC ?_ | refine k_blkH ?_ | refine k_blkB ?_ | refine k_blkK ?_ | refine k_blkE ?_ | refine k_reg ?_) | with_reducible refine r_done ?_ | with_reducible refine s_go (by simp (disch := omega) only [c36r0, c36r1, EVA, plug, eq_self, simprocAttr]; with_reducible rfl) ?_ | ((with_reducible refine chk_r ?_); refine r_callF (by simp only [CA, simprocAttr]; rfl) (by exact rfl) (by simp only [CA, simprocAttr]; rfl) rfl ?_) | ((with_reducible refine chk_r ?_); refine r_callP (by simp only [CA, simprocAttr]; rfl) (by simp only [CA, simprocAttr]; rfl) (by first | exact pc37 _ _ _ _ | ((refine PC.at q35 rfl ?F; case F => (refine .cons (.sl (ds := e5 x.M) (by simp (disch := omega) only [c36r0, c36r1, EVA, plug, eq_self, simprocAttr] <;> rfl) rfl (Nows.same rfl)) (.cons (.same rfl) .nil))); all_goals fail)) rfl ?_) | ((with_reducible refine chk_r ?_); refine r_callG (by simp only [CA, simprocAttr]; rfl) (by simp only [CA, simprocAttr]; rfl) (by simp only [CA, simprocAttr]; rfl) (by intro hg; (try simp only [BO] at hg); first | exact pc37 _ _ _ _ | ((refine PC.at q35 rfl ?F; case F => (refine .cons (.sl (ds := e5 x.M) (by simp (disch := omega) only [c36r0, c36r1, EVA, plug, eq_self, simprocAttr] <;> rfl) rfl (Nows.same rfl)) (.cons (.same rfl) .nil))); all_goals fail)) rfl ?_) | (with_reducible refine k_condP (by simp only [GA, simprocAttr]; rfl) (by first | (simp only [BO]; rfl) | rfl) (fun ht => ?_) (fun ht => ?_) <;> try (first | exact False.elim ht | exact absurd rfl ht | exact absurd trivial ht | exact Bool.noConfusion ht)) | (with_reducible refine k_ret ?_; repeat with_reducible (first | refine ret_thru ?_ | refine ret_blk ?_ | refine fin ?_)) | (with_reducible refine k_exit ?_; repeat with_reducible (first | refine thru ?_ | refine out_blk ?_ | refine pass (by decide) ?_)) | ((first | refine post1 ?_ | refine post2 ?_ | refine post3 ?_); simp only [GA, simprocAttr]) | refine post0 ?_
 all_goals first | exact ends_of | exact ends_eq rfl
theorem eH_len (x : Hd) : (eH x).length = 6 := rfl
theorem eH_rM (x : Hd) : rd (eH x) 1 (some 5) = some (.ag (e5 x.M)) := rfl
theorem eH_rn (x : Hd) : rd (eH x) 0 none = some (.i .i64 x.n) := rfl
theorem eH_rd (x : Hd) : rd (eH x) 0 (some 6) = some (.ag (eH x)) := rfl
theorem RG39 : (type_of% @c39r0.eq_1) ∧ (type_of% @c39r1.eq_1) ∧ (type_of% @c39r2.eq_1) ∧ (type_of% @c39r3.eq_1) ∧ (type_of% @c39r4.eq_1) ∧ (type_of% @c39r5.eq_1) ∧ (type_of% @c39r6.eq_1) ∧ (type_of% @c39r8.eq_1) := ⟨@c39r0.eq_1, @c39r1.eq_1, @c39r2.eq_1, @c39r3.eq_1, @c39r4.eq_1, @c39r5.eq_1, @c39r6.eq_1, @c39r8.eq_1⟩
theorem pc61 (x : Hd) : PC Tryd.prog 39 [.ag (eH x)] (.b (hdOk x)) := by
 refine pc_fn fn39 (by simp only [AV.plains, AV.plain, il_plain, bl_plain, Bool.and_true, Bool.true_and, Bool.and_self]) (by simp only [AV.plains, AV.plain, il_plain, bl_plain, Bool.and_true, Bool.true_and, Bool.and_self]) (Nat.le_of_ble_eq_true rfl) ?_
 rw [initSt1]
 repeat' first | (with_reducible first | refine k_seq ?_ | refine k_skip ?_ | refine k_blkS ?_ | refine k_blkR ?_ | refine k_blkC ?_ | refine k_blkH ?_ | refine k_blkB ?_ | refine k_blkK ?_ | refine k_blkE ?_ | refine k_reg ?_) | with_reducible refine r_done ?_ | with_reducible refine s_go (by simp (disch := omega) only [eH_rM, RG39, EVA, plug, eq_self, simprocAttr]; with_reducible rfl) ?_ | ((with_reducible refine chk_r ?_); refine r_callF (by simp only [CA, simprocAttr]; rfl) (by exact rfl) (by simp only [CA, simprocAttr]; rfl) rfl ?_) | (with_reducible refine k_condP (by simp only [GA, simprocAttr]; rfl) (by first | (simp only [BO]; rfl) | rfl) (fun ht => ?_) (fun ht => ?_) <;> try (first | exact False.elim ht | exact absurd rfl ht | exact absurd trivial ht | exact Bool.noConfusion ht)) | (with_reducible refine k_ret ?_; repeat with_reducible (first | refine ret_thru ?_ | refine ret_blk ?_ | refine fin ?_)) | (with_reducible refine k_exit ?_; repeat with_reducible (first | refine thru ?_ | refine out_blk ?_ | refine pass (by decide) ?_)) | ((first | refine post1 ?_ | refine post2 ?_ | refine post3 ?_); simp only [GA, simprocAttr]) | refine post0 ?_
 refine k_blk (k_loopS (X := Unit) [1, 6, 7] 5 (fun k _ => [(1, .p 1 0), (6, .ag (e5 x.M)), (7, .i .i64 (k : Int))]) (fun k _ h => h.m 1 = some (.cells true (eH x)) ∧ ∀ i, i < k → 0 ≤ x.M i ∧ x.M i ≤ 3000) () (by simp only [Am.keep, List.map_cons, List.map_nil, GA, simprocAttr]; try rfl) ⟨by simp (disch := omega) only [RG39, EVA, plug, eq_self, simprocAttr] <;> rfl, fun i hi => by omega⟩ ?_)
 rintro k _ h hk ⟨hm, hall⟩ ok pos
 by_cases klt : k < 5
 ·have klt' : (k : Int) < 5 := by omega
  have g1 := e5_get (F := x.M) klt
  repeat' first | (with_reducible first | refine k_seq ?_ | refine k_skip ?_ | refine k_blkS ?_ | refine k_blkR ?_ | refine k_blkC ?_ | refine k_blkH ?_ | refine k_blkB ?_ | refine k_blkK ?_ | refine k_blkE ?_ | refine k_reg ?_) | with_reducible refine r_done ?_ | with_reducible refine s_go (by simp (disch := omega) only [klt', g1, RG39, EVA, plug, eq_self, simprocAttr]; with_reducible rfl) ?_ | ((with_reducible refine chk_r ?_); refine r_callF (by simp only [CA, simprocAttr]; rfl) (by exact rfl) (by simp only [CA, simprocAttr]; rfl) rfl ?_) | (with_reducible refine k_condP (by simp only [GA, simprocAttr]; rfl) (by first | (simp only [BO]; rfl) | rfl) (fun ht => ?_) (fun ht => ?_) <;> try (first | exact False.elim ht | exact absurd rfl ht | exact absurd trivial ht | exact Bool.noConfusion ht)) | (with_reducible refine k_ret ?_; repeat with_reducible (first | refine ret_thru ?_ | refine ret_blk ?_ | refine fin ?_)) | (with_reducible refine k_exit ?_; repeat with_reducible (first | refine thru ?_ | refine out_blk ?_ | refine pass (by decide) ?_)) | ((first | refine post1 ?_ | refine post2 ?_ | refine post3 ?_); simp only [GA, simprocAttr]) | refine post0 ?_
  ·have : hdOk x = false := by
    cases q : hdOk x with
    | false => rfl
    | true => have := (hdOk_iff.1 q).2 k klt; omega
   rw [this]
   exact ends_of
  ·refine ⟨klt, (), (by simp only [Am.keep, List.map_cons, List.map_nil, GA, simprocAttr]; try rfl), hm, fun i hi => ?_⟩
   by_cases e : i = k
   ·subst e; omega
   ·exact hall i (by omega)
 ·obtain rfl : k = 5 := by omega
  have klt' : ¬ ((5 : Nat) : Int) < 5 := by omega
  repeat' first | (with_reducible first | refine k_seq ?_ | refine k_skip ?_ | refine k_blkS ?_ | refine k_blkR ?_ | refine k_blkC ?_ | refine k_blkH ?_ | refine k_blkB ?_ | refine k_blkK ?_ | refine k_blkE ?_ | refine k_reg ?_) | with_reducible refine r_done ?_ | with_reducible refine s_go (by simp (disch := omega) only [klt', hm, row_m hm, read_row (row_m hm), eH_rn, RG39, EVA, plug, eq_self, simprocAttr]; with_reducible rfl) ?_ | ((with_reducible refine chk_r ?_); refine r_callF (by simp only [CA, simprocAttr]; rfl) (by exact rfl) (by simp only [CA, simprocAttr]; rfl) rfl ?_) | (with_reducible refine k_condP (by simp only [GA, simprocAttr]; rfl) (by first | (simp only [BO]; rfl) | rfl) (fun ht => ?_) (fun ht => ?_) <;> try (first | exact False.elim ht | exact absurd rfl ht | exact absurd trivial ht | exact Bool.noConfusion ht)) | (with_reducible refine k_ret ?_; repeat with_reducible (first | refine ret_thru ?_ | refine ret_blk ?_ | refine fin ?_)) | (with_reducible refine k_exit ?_; repeat with_reducible (first | refine thru ?_ | refine out_blk ?_ | refine pass (by decide) ?_)) | ((first | refine post1 ?_ | refine post2 ?_ | refine post3 ?_); simp only [GA, simprocAttr]) | refine post0 ?_
  refine ends_eq (b_eq ?_); rw [Bool.eq_iff_iff]
  rw [hdOk_iff]
  simp only [Bool.and_eq_true, decide_eq_true_eq]
  exact ⟨fun q => by have := q.1; omega, fun q => ⟨by omega, hall⟩⟩
def dis (f : Nat → Int) (n : Nat) : Bool := decide (∀ j, j < n → ∀ i, i < j → f i ≠ f j)
theorem dis_iff {f : Nat → Int} {n : Nat} : dis f n = true ↔ ∀ j, j < n → ∀ i, i < j → f i ≠ f j := decide_eq_true_iff
theorem dis_no {f : Nat → Int} {n j i : Nat} (h1 : j < n) (h2 : i < j) (h : f i = f j) : dis f n = false := by
 cases q : dis f n with
 | false => rfl
 | true => exact absurd h (dis_iff.1 q j h1 i h2)
theorem eZ_plain (x : Sz) : AV.plains (eZ x) = true := rfl
theorem fleZ_plain (l : List Sz) : AV.plains (fl eZ l) = true := fl_plain eZ_plain l
def zD (l : List Sz) (j : Nat) : Sz := l.getD j Z0
theorem rdZ {l : List Sz} {j : Nat} (h : j < l.length) : rd (fl eZ l) (j * 17) (some 17) = some (.ag (eZ (zD l j))) := fl_rd eZ_len Z0 h
theorem eZ_rn (x : Sz) : rd (eZ x) 0 none = some (.i .i64 x.c) := rfl
theorem rdtZ {l : List Sz} {k j : Nat} (h : k < l.length) (hj : j < k) : rd ((fl eZ l).take (k * 17)) (j * 17) (some 17) = some (.ag (eZ (zD l j))) := by
 rw [fl_take eZ_len]
 have : (l.take k).getD j Z0 = zD l j := by
  unfold zD
  rw [List.getD_eq_getElem?_getD, List.getElem?_take, if_pos hj, ← List.getD_eq_getElem?_getD]
 rw [← this]
 exact fl_rd eZ_len Z0 (by rw [List.length_take]; omega)
abbrev vZ (l : List Sz) : AV := .vs l.length (fl eZ l)
theorem RG63 : (type_of% @c63r0.eq_1) ∧ (type_of% @c63r1.eq_1) ∧ (type_of% @c63r2.eq_1) ∧ (type_of% @c63r3.eq_1) ∧ (type_of% @c63r4.eq_1) ∧ (type_of% @c63r5.eq_1) ∧ (type_of% @c63r6.eq_1) ∧ (type_of% @c63r8.eq_1) := ⟨@c63r0.eq_1, @c63r1.eq_1, @c63r2.eq_1, @c63r3.eq_1, @c63r4.eq_1, @c63r5.eq_1, @c63r6.eq_1, @c63r8.eq_1⟩
theorem pc84 (l : List Sz) (hl : l.length ≤ 9223372036854775807) (g : Nat) (caps : List AV) (hcp : AV.plains caps = true) (p : Sz → Bool) (hp : ∀ x, PC Tryd.prog g (.ag (eZ x) :: caps) (.b (p x))) :
 PC Tryd.prog 63 [vZ l, .fn g [] caps] (.i .i64 (fi (fun i => p (zD l i)) l.length)) := by
 refine pc_fn fn63 (by simp only [AV.plains, AV.plain, il_plain, bl_plain, Bool.and_true, Bool.true_and, Bool.and_self, fleZ_plain, hcp]) (by simp only [AV.plains, AV.plain, il_plain, bl_plain, Bool.and_true, Bool.true_and, Bool.and_self, fleZ_plain, hcp]) (Nat.le_of_ble_eq_true rfl) ?_
 rw [initSt2]
 repeat' first | (with_reducible first | refine k_seq ?_ | refine k_skip ?_ | refine k_blkS ?_ | refine k_blkR ?_ | refine k_blkC ?_ | refine k_blkH ?_ | refine k_blkB ?_ | refine k_blkK ?_ | refine k_blkE ?_ | refine k_reg ?_) | with_reducible refine r_done ?_ | with_reducible refine s_go (by simp (disch := omega) only [RG63, EVA, plug, eq_self, simprocAttr]; with_reducible rfl) ?_ | ((with_reducible refine chk_r ?_); refine r_callF (by simp only [CA, simprocAttr]; rfl) (by exact rfl) (by simp only [CA, simprocAttr]; rfl) rfl ?_) | (with_reducible refine k_condP (by simp only [GA, simprocAttr]; rfl) (by first | (simp only [BO]; rfl) | rfl) (fun ht => ?_) (fun ht => ?_) <;> try (first | exact False.elim ht | exact absurd rfl ht | exact absurd trivial ht | exact Bool.noConfusion ht)) | (with_reducible refine k_ret ?_; repeat with_reducible (first | refine ret_thru ?_ | refine ret_blk ?_ | refine fin ?_)) | (with_reducible refine k_exit ?_; repeat with_reducible (first | refine thru ?_ | refine out_blk ?_ | refine pass (by decide) ?_)) | ((first | refine post1 ?_ | refine post2 ?_ | refine post3 ?_); simp only [GA, simprocAttr]) | refine post0 ?_
 refine k_blk (k_loopS (X := Unit) [0, 1, 7, 8] l.length (fun k _ => [(0, vZ l), (1, .fn g [] caps), (7, .i .i64 l.length), (8, .i .i64 (k : Int))]) (fun k _ h => ∀ j, j < k → p (zD l j) = false) () (by simp only [Am.keep, List.map_cons, List.map_nil, GA, simprocAttr]; try rfl) (fun j hj => by omega) ?_)
 rintro k _ h hk hf ok pos
 by_cases hlt : k < l.length
 ·have hlt' : (k : Int) < l.length := by omega
  have gl := rdZ hlt
  have q := hp (zD l k)
  cases hm : p (zD l k) with
  | true =>
    rw [hm] at q
    rw [fi_at (p := fun i => p (zD l i)) hf hm hlt]
    repeat' first | (with_reducible first | refine k_seq ?_ | refine k_skip ?_ | refine k_blkS ?_ | refine k_blkR ?_ | refine k_blkC ?_ | refine k_blkH ?_ | refine k_blkB ?_ | refine k_blkK ?_ | refine k_blkE ?_ | refine k_reg ?_) | with_reducible refine r_done ?_ | with_reducible refine s_go (by simp (disch := omega) only [hlt', gl, RG63, EVA, plug, eq_self, simprocAttr]; with_reducible rfl) ?_ | ((with_reducible refine chk_r ?_); refine r_callF (by simp only [CA, simprocAttr]; rfl) (by exact rfl) (by simp only [CA, simprocAttr]; rfl) rfl ?_) | ((with_reducible refine chk_r ?_); refine r_callP (by simp only [CA, simprocAttr]; rfl) (by simp only [CA, simprocAttr]; rfl) (by first | exact q _) rfl ?_) | (with_reducible refine k_condP (by simp only [GA, simprocAttr]; rfl) (by first | (simp only [BO]; rfl) | rfl) (fun ht => ?_) (fun ht => ?_) <;> try (first | exact False.elim ht | exact absurd rfl ht | exact absurd trivial ht | exact Bool.noConfusion ht)) | (with_reducible refine k_ret ?_; repeat with_reducible (first | refine ret_thru ?_ | refine ret_blk ?_ | refine fin ?_)) | (with_reducible refine k_exit ?_; repeat with_reducible (first | refine thru ?_ | refine out_blk ?_ | refine pass (by decide) ?_)) | ((first | refine post1 ?_ | refine post2 ?_ | refine post3 ?_); simp only [GA, simprocAttr]) | refine post0 ?_
    all_goals first | exact ends_of | exact ends_eq rfl
  | false =>
    rw [hm] at q
    have hf2 : ∀ j, j < k + 1 → p (zD l j) = false := fun j hj => by
     by_cases e : j = k
     ·subst e; exact hm
     ·exact hf j (by omega)
    repeat' first | (with_reducible first | refine k_seq ?_ | refine k_skip ?_ | refine k_blkS ?_ | refine k_blkR ?_ | refine k_blkC ?_ | refine k_blkH ?_ | refine k_blkB ?_ | refine k_blkK ?_ | refine k_blkE ?_ | refine k_reg ?_) | with_reducible refine r_done ?_ | with_reducible refine s_go (by simp (disch := omega) only [hlt', gl, RG63, EVA, plug, eq_self, simprocAttr]; with_reducible rfl) ?_ | ((with_reducible refine chk_r ?_); refine r_callF (by simp only [CA, simprocAttr]; rfl) (by exact rfl) (by simp only [CA, simprocAttr]; rfl) rfl ?_) | ((with_reducible refine chk_r ?_); refine r_callP (by simp only [CA, simprocAttr]; rfl) (by simp only [CA, simprocAttr]; rfl) (by first | exact q _) rfl ?_) | (with_reducible refine k_condP (by simp only [GA, simprocAttr]; rfl) (by first | (simp only [BO]; rfl) | rfl) (fun ht => ?_) (fun ht => ?_) <;> try (first | exact False.elim ht | exact absurd rfl ht | exact absurd trivial ht | exact Bool.noConfusion ht)) | (with_reducible refine k_ret ?_; repeat with_reducible (first | refine ret_thru ?_ | refine ret_blk ?_ | refine fin ?_)) | (with_reducible refine k_exit ?_; repeat with_reducible (first | refine thru ?_ | refine out_blk ?_ | refine pass (by decide) ?_)) | ((first | refine post1 ?_ | refine post2 ?_ | refine post3 ?_); simp only [GA, simprocAttr]) | refine post0 ?_
    exact ⟨hlt, (), (by simp only [Am.keep, List.map_cons, List.map_nil, GA, simprocAttr]; try rfl), hf2⟩
 ·obtain rfl : k = l.length := by omega
  have hlt' : ¬ (l.length : Int) < l.length := by omega
  rw [fi_none (p := fun i => p (zD l i)) hf]
  repeat' first | (with_reducible first | refine k_seq ?_ | refine k_skip ?_ | refine k_blkS ?_ | refine k_blkR ?_ | refine k_blkC ?_ | refine k_blkH ?_ | refine k_blkB ?_ | refine k_blkK ?_ | refine k_blkE ?_ | refine k_reg ?_) | with_reducible refine r_done ?_ | with_reducible refine s_go (by simp (disch := omega) only [hlt', RG63, EVA, plug, eq_self, simprocAttr]; with_reducible rfl) ?_ | ((with_reducible refine chk_r ?_); refine r_callF (by simp only [CA, simprocAttr]; rfl) (by exact rfl) (by simp only [CA, simprocAttr]; rfl) rfl ?_) | (with_reducible refine k_condP (by simp only [GA, simprocAttr]; rfl) (by first | (simp only [BO]; rfl) | rfl) (fun ht => ?_) (fun ht => ?_) <;> try (first | exact False.elim ht | exact absurd rfl ht | exact absurd trivial ht | exact Bool.noConfusion ht)) | (with_reducible refine k_ret ?_; repeat with_reducible (first | refine ret_thru ?_ | refine ret_blk ?_ | refine fin ?_)) | (with_reducible refine k_exit ?_; repeat with_reducible (first | refine thru ?_ | refine out_blk ?_ | refine pass (by decide) ?_)) | ((first | refine post1 ?_ | refine post2 ?_ | refine post3 ?_); simp only [GA, simprocAttr]) | refine post0 ?_
  all_goals first | exact ends_of | exact ends_eq rfl
def anyS (p : Sz → Bool) (l : List Sz) : Bool := decide (0 ≤ fi (fun i => p (zD l i)) l.length)
theorem anyS_iff {p : Sz → Bool} {l : List Sz} : anyS p l = true ↔ ∃ j, j < l.length ∧ p (zD l j) = true := by
 unfold anyS
 rw [decide_eq_true_eq, fi_ge]
theorem pc72 (l : List Sz) (hl : l.length ≤ 9223372036854775807) (g : Nat) (caps : List AV) (hcp : AV.plains caps = true) (p : Sz → Bool) (hp : ∀ x, PC Tryd.prog g (.ag (eZ x) :: caps) (.b (p x))) :
 PC Tryd.prog 28 [vZ l, .fn g [] caps] (.b (anyS p l)) := by
 have q := pc84 l hl g caps hcp p hp
 refine pc_fn fn28 (by simp only [AV.plains, AV.plain, il_plain, bl_plain, Bool.and_true, Bool.true_and, Bool.and_self, fleZ_plain, hcp]) (by simp only [AV.plains, AV.plain, il_plain, bl_plain, Bool.and_true, Bool.true_and, Bool.and_self, fleZ_plain, hcp]) (Nat.le_of_ble_eq_true rfl) ?_
 rw [initSt2]
 repeat' first | (with_reducible first | refine k_seq ?_ | refine k_skip ?_ | refine k_blkS ?_ | refine k_blkR ?_ | refine k_blkC ?_ | refine k_blkH ?_ | refine k_blkB ?_ | refine k_blkK ?_ | refine k_blkE ?_ | refine k_reg ?_) | with_reducible refine r_done ?_ | with_reducible refine s_go (by simp (disch := omega) only [c28r0, c28r1, EVA, plug, eq_self, simprocAttr]; with_reducible rfl) ?_ | ((with_reducible refine chk_r ?_); refine r_callF (by simp only [CA, simprocAttr]; rfl) (by exact rfl) (by simp only [CA, simprocAttr]; rfl) rfl ?_) | ((with_reducible refine chk_r ?_); refine r_callP (by simp only [CA, simprocAttr]; rfl) (by simp only [CA, simprocAttr]; rfl) (by first | exact q _) rfl ?_) | (with_reducible refine k_condP (by simp only [GA, simprocAttr]; rfl) (by first | (simp only [BO]; rfl) | rfl) (fun ht => ?_) (fun ht => ?_) <;> try (first | exact False.elim ht | exact absurd rfl ht | exact absurd trivial ht | exact Bool.noConfusion ht)) | (with_reducible refine k_ret ?_; repeat with_reducible (first | refine ret_thru ?_ | refine ret_blk ?_ | refine fin ?_)) | (with_reducible refine k_exit ?_; repeat with_reducible (first | refine thru ?_ | refine out_blk ?_ | refine pass (by decide) ?_)) | ((first | refine post1 ?_ | refine post2 ?_ | refine post3 ?_); simp only [GA, simprocAttr]) | refine post0 ?_
 all_goals first | exact ends_of | exact ends_eq rfl
theorem pc73 (x : Sz) : PC Tryd.prog 29 [.ag (eZ x)] (.b (!szOk x)) := by
 refine pc_fn fn29 (by simp only [AV.plains, AV.plain, il_plain, bl_plain, Bool.and_true, Bool.true_and, Bool.and_self]) (by simp only [AV.plains, AV.plain, il_plain, bl_plain, Bool.and_true, Bool.true_and, Bool.and_self]) (Nat.le_of_ble_eq_true rfl) ?_
 rw [initSt1]
 repeat' first | (with_reducible first | refine k_seq ?_ | refine k_skip ?_ | refine k_blkS ?_ | refine k_blkR ?_ | refine k_blkC ?_ | refine k_blkH ?_ | refine k_blkB ?_ | refine k_blkK ?_ | refine k_blkE ?_ | refine k_reg ?_) | with_reducible refine r_done ?_ | with_reducible refine s_go (by simp (disch := omega) only [eZ_rd, c29r0, c29r1, EVA, plug, eq_self, simprocAttr]; with_reducible rfl) ?_ | ((with_reducible refine chk_r ?_); refine r_callF (by simp only [CA, simprocAttr]; rfl) (by exact rfl) (by simp only [CA, simprocAttr]; rfl) rfl ?_) | ((with_reducible refine chk_r ?_); refine r_callP (by simp only [CA, simprocAttr]; rfl) (by simp only [CA, simprocAttr]; rfl) (by first | exact pc39 _ _) rfl ?_) | (with_reducible refine k_condP (by simp only [GA, simprocAttr]; rfl) (by first | (simp only [BO]; rfl) | rfl) (fun ht => ?_) (fun ht => ?_) <;> try (first | exact False.elim ht | exact absurd rfl ht | exact absurd trivial ht | exact Bool.noConfusion ht)) | (with_reducible refine k_ret ?_; repeat with_reducible (first | refine ret_thru ?_ | refine ret_blk ?_ | refine fin ?_)) | (with_reducible refine k_exit ?_; repeat with_reducible (first | refine thru ?_ | refine out_blk ?_ | refine pass (by decide) ?_)) | ((first | refine post1 ?_ | refine post2 ?_ | refine post3 ?_); simp only [GA, simprocAttr]) | refine post0 ?_
 all_goals first | exact ends_of | exact ends_eq rfl
theorem pc75 (x : Sz) : PC Tryd.prog 32 [.ag (eZ x)] (.i .i64 x.c) := by
 refine pc_fn fn32 (by simp only [AV.plains, AV.plain, il_plain, bl_plain, Bool.and_true, Bool.true_and, Bool.and_self]) (by simp only [AV.plains, AV.plain, il_plain, bl_plain, Bool.and_true, Bool.true_and, Bool.and_self]) (Nat.le_of_ble_eq_true rfl) ?_
 rw [initSt1]
 repeat' first | (with_reducible first | refine k_seq ?_ | refine k_skip ?_ | refine k_blkS ?_ | refine k_blkR ?_ | refine k_blkC ?_ | refine k_blkH ?_ | refine k_blkB ?_ | refine k_blkK ?_ | refine k_blkE ?_ | refine k_reg ?_) | with_reducible refine r_done ?_ | with_reducible refine s_go (by simp (disch := omega) only [eZ_rn, c32r0, c32r1, EVA, plug, eq_self, simprocAttr]; with_reducible rfl) ?_ | ((with_reducible refine chk_r ?_); refine r_callF (by simp only [CA, simprocAttr]; rfl) (by exact rfl) (by simp only [CA, simprocAttr]; rfl) rfl ?_) | (with_reducible refine k_condP (by simp only [GA, simprocAttr]; rfl) (by first | (simp only [BO]; rfl) | rfl) (fun ht => ?_) (fun ht => ?_) <;> try (first | exact False.elim ht | exact absurd rfl ht | exact absurd trivial ht | exact Bool.noConfusion ht)) | (with_reducible refine k_ret ?_; repeat with_reducible (first | refine ret_thru ?_ | refine ret_blk ?_ | refine fin ?_)) | (with_reducible refine k_exit ?_; repeat with_reducible (first | refine thru ?_ | refine out_blk ?_ | refine pass (by decide) ?_)) | ((first | refine post1 ?_ | refine post2 ?_ | refine post3 ?_); simp only [GA, simprocAttr]) | refine post0 ?_
 all_goals first | exact ends_of | exact ends_eq rfl
def zN (l : List Sz) (i : Nat) : Int := (zD l i).c
theorem RG31 : (type_of% @c31r0.eq_1) ∧ (type_of% @c31r1.eq_1) ∧ (type_of% @c31r2.eq_1) ∧ (type_of% @c31r3.eq_1) ∧ (type_of% @c31r4.eq_1) ∧ (type_of% @c31r5.eq_1) ∧ (type_of% @c31r6.eq_1) ∧ (type_of% @c31r7.eq_1) ∧ (type_of% @c31r8.eq_1) ∧ (type_of% @c31r10.eq_1) := ⟨@c31r0.eq_1, @c31r1.eq_1, @c31r2.eq_1, @c31r3.eq_1, @c31r4.eq_1, @c31r5.eq_1, @c31r6.eq_1, @c31r7.eq_1, @c31r8.eq_1, @c31r10.eq_1⟩
theorem pc74 (l : List Sz) (hl : l.length ≤ 9223372036854775807) : PC Tryd.prog 31 [vZ l, .fn 32 [] []] (.b (dis (zN l) l.length)) := by
 refine pc_fn fn31 (by simp only [AV.plains, AV.plain, il_plain, bl_plain, Bool.and_true, Bool.true_and, Bool.and_self, fleZ_plain]) (by simp only [AV.plains, AV.plain, il_plain, bl_plain, Bool.and_true, Bool.true_and, Bool.and_self, fleZ_plain]) (Nat.le_of_ble_eq_true rfl) ?_
 rw [initSt2]
 repeat' first | (with_reducible first | refine k_seq ?_ | refine k_skip ?_ | refine k_blkS ?_ | refine k_blkR ?_ | refine k_blkC ?_ | refine k_blkH ?_ | refine k_blkB ?_ | refine k_blkK ?_ | refine k_blkE ?_ | refine k_reg ?_) | with_reducible refine r_done ?_ | with_reducible refine s_go (by simp (disch := omega) only [RG31, EVA, plug, eq_self, simprocAttr]; with_reducible rfl) ?_ | ((with_reducible refine chk_r ?_); refine r_callF (by simp only [CA, simprocAttr]; rfl) (by exact rfl) (by simp only [CA, simprocAttr]; rfl) rfl ?_) | (with_reducible refine k_condP (by simp only [GA, simprocAttr]; rfl) (by first | (simp only [BO]; rfl) | rfl) (fun ht => ?_) (fun ht => ?_) <;> try (first | exact False.elim ht | exact absurd rfl ht | exact absurd trivial ht | exact Bool.noConfusion ht)) | (with_reducible refine k_ret ?_; repeat with_reducible (first | refine ret_thru ?_ | refine ret_blk ?_ | refine fin ?_)) | (with_reducible refine k_exit ?_; repeat with_reducible (first | refine thru ?_ | refine out_blk ?_ | refine pass (by decide) ?_)) | ((first | refine post1 ?_ | refine post2 ?_ | refine post3 ?_); simp only [GA, simprocAttr]) | refine post0 ?_
 refine k_blk (k_loopS (X := Nat × List (AV × AV)) [1, 5, 9, 10, 11] l.length (fun k x => [(1, .fn 32 [] []), (5, .mp x.1), (9, vZ l), (10, .i .i64 l.length), (11, .i .i64 (k : Int))])
  (fun k x h => h.m x.1 = some (.map x.2) ∧ (∀ j, j < k → ∀ i, i < j → zN l i ≠ zN l j) ∧ MFi x.2 (setOf fun n => ∃ i, i < k ∧ zN l i = n)) (_, _) (by simp only [Am.keep, List.map_cons, List.map_nil, GA, simprocAttr]; try rfl) ⟨by simp (disch := omega) only [RG31, EVA, plug, eq_self, simprocAttr] <;> rfl, fun j hj => by omega, ?_⟩ ?_)
 ·exact MFi.set_nil fun a ⟨i, hi, _⟩ => by omega
 rintro k ⟨tk, es⟩ h hk ⟨hm, hv, hf⟩ ok pos
 simp only at hm hf ⊢
 have htk := ok.m hm
 have htk' : ¬ tk = h.nx := by omega
 by_cases hlt : k < l.length
 ·have rT := rdZ hlt
  have hlt' : (k : Int) < l.length := by omega
  have lk := MFi.set_lk hf (zD l k).c
  have u1 := (MFi.up hf (zD l k).c (.b true)).1
  have q := pc75 (zD l k)
  repeat' first | (with_reducible first | refine k_seq ?_ | refine k_skip ?_ | refine k_blkS ?_ | refine k_blkR ?_ | refine k_blkC ?_ | refine k_blkH ?_ | refine k_blkB ?_ | refine k_blkK ?_ | refine k_blkE ?_ | refine k_reg ?_) | with_reducible refine r_done ?_ | with_reducible refine s_go (by simp (disch := omega) only [hm, rT, hlt', lk, u1, eZ_rd, htk', RG31, EVA, plug, eq_self, simprocAttr]; with_reducible rfl) ?_ | ((with_reducible refine chk_r ?_); refine r_callF (by simp only [CA, simprocAttr]; rfl) (by exact rfl) (by simp only [CA, simprocAttr]; rfl) rfl ?_) | ((with_reducible refine chk_r ?_); refine r_callP (by simp only [CA, simprocAttr]; rfl) (by simp only [CA, simprocAttr]; rfl) (by first | exact q _) rfl ?_) | (with_reducible refine k_condP (by simp only [GA, simprocAttr]; rfl) (by first | (simp only [BO]; rfl) | rfl) (fun ht => ?_) (fun ht => ?_) <;> try (first | exact False.elim ht | exact absurd rfl ht | exact absurd trivial ht | exact Bool.noConfusion ht)) | (with_reducible refine k_ret ?_; repeat with_reducible (first | refine ret_thru ?_ | refine ret_blk ?_ | refine fin ?_)) | (with_reducible refine k_exit ?_; repeat with_reducible (first | refine thru ?_ | refine out_blk ?_ | refine pass (by decide) ?_)) | ((first | refine post1 ?_ | refine post2 ?_ | refine post3 ?_); simp only [GA, simprocAttr]) | refine post0 ?_
  ·obtain ⟨i, hi, e⟩ := ht
   rw [dis_no hlt hi e]
   exact ends_of
  ·refine ⟨hlt, ⟨tk, _⟩, (by simp only [Am.keep, List.map_cons, List.map_nil, GA, simprocAttr]; try rfl), by simp (disch := omega) only [htk', RG31, EVA, plug, eq_self, simprocAttr] <;> rfl, fun j hj i hi => ?_, MFi.set_up hf _ _ fun b => ⟨fun ⟨i, hi, e⟩ => ?_, fun hb => ?_⟩⟩
   ·by_cases e : j = k
    ·subst e; exact fun q => ht ⟨i, hi, q⟩
    ·exact hv j (by omega) i hi
   ·by_cases hk : i = k
    ·subst hk; exact .inl e.symm
    ·exact .inr ⟨i, by omega, e⟩
   ·rcases hb with rfl | ⟨i, hi, e⟩
    ·exact ⟨k, by omega, rfl⟩
    ·exact ⟨i, by omega, e⟩
 ·have hlt' : ¬ (k : Int) < l.length := by omega
  obtain rfl : k = l.length := by omega
  repeat' first | (with_reducible first | refine k_seq ?_ | refine k_skip ?_ | refine k_blkS ?_ | refine k_blkR ?_ | refine k_blkC ?_ | refine k_blkH ?_ | refine k_blkB ?_ | refine k_blkK ?_ | refine k_blkE ?_ | refine k_reg ?_) | with_reducible refine r_done ?_ | with_reducible refine s_go (by simp (disch := omega) only [hlt', RG31, EVA, plug, eq_self, simprocAttr]; with_reducible rfl) ?_ | ((with_reducible refine chk_r ?_); refine r_callF (by simp only [CA, simprocAttr]; rfl) (by exact rfl) (by simp only [CA, simprocAttr]; rfl) rfl ?_) | (with_reducible refine k_condP (by simp only [GA, simprocAttr]; rfl) (by first | (simp only [BO]; rfl) | rfl) (fun ht => ?_) (fun ht => ?_) <;> try (first | exact False.elim ht | exact absurd rfl ht | exact absurd trivial ht | exact Bool.noConfusion ht)) | (with_reducible refine k_ret ?_; repeat with_reducible (first | refine ret_thru ?_ | refine ret_blk ?_ | refine fin ?_)) | (with_reducible refine k_exit ?_; repeat with_reducible (first | refine thru ?_ | refine out_blk ?_ | refine pass (by decide) ?_)) | ((first | refine post1 ?_ | refine post2 ?_ | refine post3 ?_); simp only [GA, simprocAttr]) | refine post0 ?_
  rw [dis_iff.2 hv]
  exact ends_of
def szsOk (l : List Sz) : Bool := decide ((l.length : Int) ≤ 20) && !anyS (fun x => !szOk x) l && dis (zN l) l.length
theorem szsOk_iff {l : List Sz} : szsOk l = true ↔ l.length ≤ 20 ∧ (∀ j, j < l.length → szOk (zD l j) = true) ∧ ∀ j, j < l.length → ∀ i, i < j → zN l i ≠ zN l j := by
 have e : anyS (fun x => !szOk x) l = false ↔ ∀ j, j < l.length → szOk (zD l j) = true := by
  rw [← Bool.not_eq_true, anyS_iff]
  constructor
  ·intro hn j hj
   cases q : szOk (zD l j) with
   | true => rfl
   | false => exact absurd ⟨j, hj, by rw [q]; rfl⟩ hn
  ·rintro hall ⟨j, hj, q⟩
   rw [hall j hj] at q
   cases q
 simp only [szsOk, Bool.and_eq_true, decide_eq_true_eq, Bool.not_eq_true', e, dis_iff]
 constructor
 ·rintro ⟨⟨h1, h2⟩, h3⟩; exact ⟨by omega, h2, h3⟩
 ·rintro ⟨h1, h2, h3⟩; exact ⟨⟨by omega, h2⟩, h3⟩
theorem pc59 (l : List Sz) (hl : l.length ≤ 9223372036854775807) : PC Tryd.prog 8 [vZ l] (.b (szsOk l)) := by
 have q1 := pc72 l hl 29 [] rfl _ pc73
 have q2 := pc74 l hl
 unfold szsOk
 refine pc_fn fn8 (by simp only [AV.plains, AV.plain, il_plain, bl_plain, Bool.and_true, Bool.true_and, Bool.and_self, fleZ_plain]) (by simp only [AV.plains, AV.plain, il_plain, bl_plain, Bool.and_true, Bool.true_and, Bool.and_self, fleZ_plain]) (Nat.le_of_ble_eq_true rfl) ?_
 rw [initSt1]
 repeat' first | (with_reducible first | refine k_seq ?_ | refine k_skip ?_ | refine k_blkS ?_ | refine k_blkR ?_ | refine k_blkC ?_ | refine k_blkH ?_ | refine k_blkB ?_ | refine k_blkK ?_ | refine k_blkE ?_ | refine k_reg ?_) | with_reducible refine r_done ?_ | with_reducible refine s_go (by simp (disch := omega) only [c8r0, c8r1, EVA, plug, eq_self, simprocAttr]; with_reducible rfl) ?_ | ((with_reducible refine chk_r ?_); refine r_callF (by simp only [CA, simprocAttr]; rfl) (by exact rfl) (by simp only [CA, simprocAttr]; rfl) rfl ?_) | ((with_reducible refine chk_r ?_); refine r_callP (by simp only [CA, simprocAttr]; rfl) (by simp only [CA, simprocAttr]; rfl) (by first | exact q1 _ | exact q2 _) rfl ?_) | ((with_reducible refine chk_r ?_); refine r_callG (by simp only [CA, simprocAttr]; rfl) (by simp only [CA, simprocAttr]; rfl) (by simp only [CA, simprocAttr]; rfl) (by intro hg; (try simp only [BO] at hg); first | exact q1 _ | exact q2 _) rfl ?_) | (with_reducible refine k_condP (by simp only [GA, simprocAttr]; rfl) (by first | (simp only [BO]; rfl) | rfl) (fun ht => ?_) (fun ht => ?_) <;> try (first | exact False.elim ht | exact absurd rfl ht | exact absurd trivial ht | exact Bool.noConfusion ht)) | (with_reducible refine k_ret ?_; repeat with_reducible (first | refine ret_thru ?_ | refine ret_blk ?_ | refine fin ?_)) | (with_reducible refine k_exit ?_; repeat with_reducible (first | refine thru ?_ | refine out_blk ?_ | refine pass (by decide) ?_)) | ((first | refine post1 ?_ | refine post2 ?_ | refine post3 ?_); simp only [GA, simprocAttr]) | refine post0 ?_
 all_goals first | exact ends_of | exact ends_eq rfl
theorem RG9 : (type_of% @c9r0.eq_1) ∧ (type_of% @c9r1.eq_1) ∧ (type_of% @c9r2.eq_1) ∧ (type_of% @c9r3.eq_1) ∧ (type_of% @c9r4.eq_1) ∧ (type_of% @c9r5.eq_1) ∧ (type_of% @c9r6.eq_1) ∧ (type_of% @c9r7.eq_1) ∧ (type_of% @c9r8.eq_1) ∧ (type_of% @c9r9.eq_1) ∧ (type_of% @c9r10.eq_1) ∧ (type_of% @c9r11.eq_1) ∧ (type_of% @c9r13.eq_1) ∧ (type_of% @c9r15.eq_1) := ⟨@c9r0.eq_1, @c9r1.eq_1, @c9r2.eq_1, @c9r3.eq_1, @c9r4.eq_1, @c9r5.eq_1, @c9r6.eq_1, @c9r7.eq_1, @c9r8.eq_1, @c9r9.eq_1, @c9r10.eq_1, @c9r11.eq_1, @c9r13.eq_1, @c9r15.eq_1⟩
theorem pc66 (l : List Sz) (hl : l.length ≤ 9223372036854775807) : PC Tryd.prog 9 [vZ l] (.b (szsOk l)) := by
 refine pc_fn fn9 (by simp only [AV.plains, AV.plain, il_plain, bl_plain, Bool.and_true, Bool.true_and, Bool.and_self, fleZ_plain]) (by simp only [AV.plains, AV.plain, il_plain, bl_plain, Bool.and_true, Bool.true_and, Bool.and_self, fleZ_plain]) (Nat.le_of_ble_eq_true rfl) ?_
 rw [initSt1]
 repeat' first | (with_reducible first | refine k_seq ?_ | refine k_skip ?_ | refine k_blkS ?_ | refine k_blkR ?_ | refine k_blkC ?_ | refine k_blkH ?_ | refine k_blkB ?_ | refine k_blkK ?_ | refine k_blkE ?_ | refine k_reg ?_) | with_reducible refine r_done ?_ | with_reducible refine s_go (by simp (disch := omega) only [RG9, EVA, plug, eq_self, simprocAttr]; with_reducible rfl) ?_ | ((with_reducible refine chk_r ?_); refine r_callF (by simp only [CA, simprocAttr]; rfl) (by exact rfl) (by simp only [CA, simprocAttr]; rfl) rfl ?_) | (with_reducible refine k_condP (by simp only [GA, simprocAttr]; rfl) (by first | (simp only [BO]; rfl) | rfl) (fun ht => ?_) (fun ht => ?_) <;> try (first | exact False.elim ht | exact absurd rfl ht | exact absurd trivial ht | exact Bool.noConfusion ht)) | (with_reducible refine k_ret ?_; repeat with_reducible (first | refine ret_thru ?_ | refine ret_blk ?_ | refine fin ?_)) | (with_reducible refine k_exit ?_; repeat with_reducible (first | refine thru ?_ | refine out_blk ?_ | refine pass (by decide) ?_)) | ((first | refine post1 ?_ | refine post2 ?_ | refine post3 ?_); simp only [GA, simprocAttr]) | refine post0 ?_
 refine k_blk (k_loopS (X := Unit) [0, 7, 8, 9] l.length (fun k _ => [(0, vZ l), (7, vZ l), (8, .i .i64 l.length), (9, .i .i64 (k : Int))]) (fun k _ h => ∀ j, j < k → szOk (zD l j) = true ∧ ∀ i, i < j → zN l i ≠ zN l j) () (by simp only [Am.keep, List.map_cons, List.map_nil, GA, simprocAttr]; try rfl) (fun j hj => by omega) ?_)
 rintro k _ h hk hall ok pos
 have no : ∀ {P : Prop}, (szsOk l = true → P) → ¬ P → szsOk l = false := fun f g => by
  cases q : szsOk l with
  | false => rfl
  | true => exact absurd (f q) g
 by_cases klt : k < l.length
 ·have klt' : (k : Int) < l.length := by omega
  have rT := rdZ klt
  have q := pc40 (zD l k)
  cases c1 : szOk (zD l k) with
  | false =>
    rw [c1] at q
    repeat' first | (with_reducible first | refine k_seq ?_ | refine k_skip ?_ | refine k_blkS ?_ | refine k_blkR ?_ | refine k_blkC ?_ | refine k_blkH ?_ | refine k_blkB ?_ | refine k_blkK ?_ | refine k_blkE ?_ | refine k_reg ?_) | with_reducible refine r_done ?_ | with_reducible refine s_go (by simp (disch := omega) only [klt', rT, eZ_rd, RG9, EVA, plug, eq_self, simprocAttr]; with_reducible rfl) ?_ | ((with_reducible refine chk_r ?_); refine r_callF (by simp only [CA, simprocAttr]; rfl) (by exact rfl) (by simp only [CA, simprocAttr]; rfl) rfl ?_) | ((with_reducible refine chk_r ?_); refine r_callP (by simp only [CA, simprocAttr]; rfl) (by simp only [CA, simprocAttr]; rfl) (by first | exact q _) rfl ?_) | (with_reducible refine k_condP (by simp only [GA, simprocAttr]; rfl) (by first | (simp only [BO]; rfl) | rfl) (fun ht => ?_) (fun ht => ?_) <;> try (first | exact False.elim ht | exact absurd rfl ht | exact absurd trivial ht | exact Bool.noConfusion ht)) | (with_reducible refine k_ret ?_; repeat with_reducible (first | refine ret_thru ?_ | refine ret_blk ?_ | refine fin ?_)) | (with_reducible refine k_exit ?_; repeat with_reducible (first | refine thru ?_ | refine out_blk ?_ | refine pass (by decide) ?_)) | ((first | refine post1 ?_ | refine post2 ?_ | refine post3 ?_); simp only [GA, simprocAttr]) | refine post0 ?_
    all_goals (rw [no (fun q => (szsOk_iff.1 q).2.1 k klt) (by rw [c1]; simp)]; exact ends_of)
  | true =>
    rw [c1] at q
    repeat' first | (with_reducible first | refine k_seq ?_ | refine k_skip ?_ | refine k_blkS ?_ | refine k_blkR ?_ | refine k_blkC ?_ | refine k_blkH ?_ | refine k_blkB ?_ | refine k_blkK ?_ | refine k_blkE ?_ | refine k_reg ?_) | with_reducible refine r_done ?_ | with_reducible refine s_go (by simp (disch := omega) only [klt', rT, eZ_rd, RG9, EVA, plug, eq_self, simprocAttr]; with_reducible rfl) ?_ | ((with_reducible refine chk_r ?_); refine r_callF (by simp only [CA, simprocAttr]; rfl) (by exact rfl) (by simp only [CA, simprocAttr]; rfl) rfl ?_) | ((with_reducible refine chk_r ?_); refine r_callP (by simp only [CA, simprocAttr]; rfl) (by simp only [CA, simprocAttr]; rfl) (by first | exact q _) rfl ?_) | (with_reducible refine k_condP (by simp only [GA, simprocAttr]; rfl) (by first | (simp only [BO]; rfl) | rfl) (fun ht => ?_) (fun ht => ?_) <;> try (first | exact False.elim ht | exact absurd rfl ht | exact absurd trivial ht | exact Bool.noConfusion ht)) | (with_reducible refine k_ret ?_; repeat with_reducible (first | refine ret_thru ?_ | refine ret_blk ?_ | refine fin ?_)) | (with_reducible refine k_exit ?_; repeat with_reducible (first | refine thru ?_ | refine out_blk ?_ | refine pass (by decide) ?_)) | ((first | refine post1 ?_ | refine post2 ?_ | refine post3 ?_); simp only [GA, simprocAttr]) | refine post0 ?_
    refine k_blk (k_loopS (X := Unit) [0, 4, 7, 8, 9, 19, 20, 21] k (fun j _ => [(0, vZ l), (4, .p (h.nx + 1 + 3) 0), (7, vZ l), (8, .i .i64 l.length), (9, .i .i64 (k : Int)), (19, .vs k ((fl eZ l).take (k * 17))), (20, .i .i64 (k : Int)), (21, .i .i64 (j : Int))]) (fun j _ h' => h'.m (h.nx + 1 + 3) = some (.cells true (eZ (zD l k))) ∧ ∀ i, i < j → zN l i ≠ zN l k) () (by simp only [Am.keep, List.map_cons, List.map_nil, GA, simprocAttr]; try rfl) ⟨by simp (disch := omega) only [RG9, EVA, plug, eq_self, simprocAttr] <;> rfl, fun i hi => by omega⟩ ?_)
    rintro j _ h' hj ⟨hm', hd⟩ ok' pos'
    have lt4 := ok'.m hm'
    by_cases hjk : j < k
    ·have hjk' : (j : Int) < k := by omega
     have rJ := rdtZ klt hjk
     repeat' first | (with_reducible first | refine k_seq ?_ | refine k_skip ?_ | refine k_blkS ?_ | refine k_blkR ?_ | refine k_blkC ?_ | refine k_blkH ?_ | refine k_blkB ?_ | refine k_blkK ?_ | refine k_blkE ?_ | refine k_reg ?_) | with_reducible refine r_done ?_ | with_reducible refine s_go (by simp (disch := omega) only [hjk', rJ, hm', row_m hm', read_row (row_m hm'), eZ_rn, RG9, EVA, plug, eq_self, simprocAttr]; with_reducible rfl) ?_ | ((with_reducible refine chk_r ?_); refine r_callF (by simp only [CA, simprocAttr]; rfl) (by exact rfl) (by simp only [CA, simprocAttr]; rfl) rfl ?_) | (with_reducible refine k_condP (by simp only [GA, simprocAttr]; rfl) (by first | (simp only [BO]; rfl) | rfl) (fun ht => ?_) (fun ht => ?_) <;> try (first | exact False.elim ht | exact absurd rfl ht | exact absurd trivial ht | exact Bool.noConfusion ht)) | (with_reducible refine k_ret ?_; repeat with_reducible (first | refine ret_thru ?_ | refine ret_blk ?_ | refine fin ?_)) | (with_reducible refine k_exit ?_; repeat with_reducible (first | refine thru ?_ | refine out_blk ?_ | refine pass (by decide) ?_)) | ((first | refine post1 ?_ | refine post2 ?_ | refine post3 ?_); simp only [GA, simprocAttr]) | refine post0 ?_
     ·rw [no (fun q => (szsOk_iff.1 q).2.2 k klt j hjk) (fun q => q ht)]
      exact ends_of
     ·refine ⟨hjk, (), (by simp only [Am.keep, List.map_cons, List.map_nil, GA, simprocAttr]; try rfl), by simp (disch := omega) only [hm', RG9, EVA, plug, eq_self, simprocAttr], fun i hi => ?_⟩
      by_cases e : i = j
      ·subst e; exact ht
      ·exact hd i (by omega)
    ·obtain rfl : j = k := by omega
     have hjk' : ¬ (j : Int) < j := by omega
     repeat' first | (with_reducible first | refine k_seq ?_ | refine k_skip ?_ | refine k_blkS ?_ | refine k_blkR ?_ | refine k_blkC ?_ | refine k_blkH ?_ | refine k_blkB ?_ | refine k_blkK ?_ | refine k_blkE ?_ | refine k_reg ?_) | with_reducible refine r_done ?_ | with_reducible refine s_go (by simp (disch := omega) only [hjk', RG9, EVA, plug, eq_self, simprocAttr]; with_reducible rfl) ?_ | ((with_reducible refine chk_r ?_); refine r_callF (by simp only [CA, simprocAttr]; rfl) (by exact rfl) (by simp only [CA, simprocAttr]; rfl) rfl ?_) | (with_reducible refine k_condP (by simp only [GA, simprocAttr]; rfl) (by first | (simp only [BO]; rfl) | rfl) (fun ht => ?_) (fun ht => ?_) <;> try (first | exact False.elim ht | exact absurd rfl ht | exact absurd trivial ht | exact Bool.noConfusion ht)) | (with_reducible refine k_ret ?_; repeat with_reducible (first | refine ret_thru ?_ | refine ret_blk ?_ | refine fin ?_)) | (with_reducible refine k_exit ?_; repeat with_reducible (first | refine thru ?_ | refine out_blk ?_ | refine pass (by decide) ?_)) | ((first | refine post1 ?_ | refine post2 ?_ | refine post3 ?_); simp only [GA, simprocAttr]) | refine post0 ?_
     refine ⟨klt, (), (by simp only [Am.keep, List.map_cons, List.map_nil, GA, simprocAttr]; try rfl), fun i hi => ?_⟩
     by_cases e : i = j
     ·subst e; exact ⟨c1, hd⟩
     ·exact hall i (by omega)
 ·obtain rfl : k = l.length := by omega
  have klt' : ¬ (l.length : Int) < l.length := by omega
  repeat' first | (with_reducible first | refine k_seq ?_ | refine k_skip ?_ | refine k_blkS ?_ | refine k_blkR ?_ | refine k_blkC ?_ | refine k_blkH ?_ | refine k_blkB ?_ | refine k_blkK ?_ | refine k_blkE ?_ | refine k_reg ?_) | with_reducible refine r_done ?_ | with_reducible refine s_go (by simp (disch := omega) only [klt', RG9, EVA, plug, eq_self, simprocAttr]; with_reducible rfl) ?_ | ((with_reducible refine chk_r ?_); refine r_callF (by simp only [CA, simprocAttr]; rfl) (by exact rfl) (by simp only [CA, simprocAttr]; rfl) rfl ?_) | (with_reducible refine k_condP (by simp only [GA, simprocAttr]; rfl) (by first | (simp only [BO]; rfl) | rfl) (fun ht => ?_) (fun ht => ?_) <;> try (first | exact False.elim ht | exact absurd rfl ht | exact absurd trivial ht | exact Bool.noConfusion ht)) | (with_reducible refine k_ret ?_; repeat with_reducible (first | refine ret_thru ?_ | refine ret_blk ?_ | refine fin ?_)) | (with_reducible refine k_exit ?_; repeat with_reducible (first | refine thru ?_ | refine out_blk ?_ | refine pass (by decide) ?_)) | ((first | refine post1 ?_ | refine post2 ?_ | refine post3 ?_); simp only [GA, simprocAttr]) | refine post0 ?_
  refine ends_eq (b_eq ?_); rw [Bool.eq_iff_iff]
  rw [szsOk_iff]
  simp only [decide_eq_true_eq]
  exact ⟨fun q => by omega, fun q => ⟨by omega, fun j hj => (hall j hj).1, fun j hj => (hall j hj).2⟩⟩
theorem eH_plain (x : Hd) : AV.plains (eH x) = true := rfl
theorem fleH_plain (l : List Hd) : AV.plains (fl eH l) = true := fl_plain eH_plain l
def hD (l : List Hd) (j : Nat) : Hd := l.getD j H0
theorem rdH {l : List Hd} {j : Nat} (h : j < l.length) : rd (fl eH l) (j * 6) (some 6) = some (.ag (eH (hD l j))) := fl_rd eH_len H0 h
theorem rdtH {l : List Hd} {k j : Nat} (h : k < l.length) (hj : j < k) : rd ((fl eH l).take (k * 6)) (j * 6) (some 6) = some (.ag (eH (hD l j))) := by
 rw [fl_take eH_len]
 have : (l.take k).getD j H0 = hD l j := by
  unfold hD
  rw [List.getD_eq_getElem?_getD, List.getElem?_take, if_pos hj, ← List.getD_eq_getElem?_getD]
 rw [← this]
 exact fl_rd eH_len H0 (by rw [List.length_take]; omega)
abbrev vH (l : List Hd) : AV := .vs l.length (fl eH l)
theorem RG65 : (type_of% @c65r0.eq_1) ∧ (type_of% @c65r1.eq_1) ∧ (type_of% @c65r2.eq_1) ∧ (type_of% @c65r3.eq_1) ∧ (type_of% @c65r4.eq_1) ∧ (type_of% @c65r5.eq_1) ∧ (type_of% @c65r6.eq_1) ∧ (type_of% @c65r8.eq_1) := ⟨@c65r0.eq_1, @c65r1.eq_1, @c65r2.eq_1, @c65r3.eq_1, @c65r4.eq_1, @c65r5.eq_1, @c65r6.eq_1, @c65r8.eq_1⟩
theorem pc85 (l : List Hd) (hl : l.length ≤ 9223372036854775807) (g : Nat) (caps : List AV) (hcp : AV.plains caps = true) (p : Hd → Bool) (hp : ∀ x, PC Tryd.prog g (.ag (eH x) :: caps) (.b (p x))) :
 PC Tryd.prog 65 [vH l, .fn g [] caps] (.i .i64 (fi (fun i => p (hD l i)) l.length)) := by
 refine pc_fn fn65 (by simp only [AV.plains, AV.plain, il_plain, bl_plain, Bool.and_true, Bool.true_and, Bool.and_self, fleH_plain, hcp]) (by simp only [AV.plains, AV.plain, il_plain, bl_plain, Bool.and_true, Bool.true_and, Bool.and_self, fleH_plain, hcp]) (Nat.le_of_ble_eq_true rfl) ?_
 rw [initSt2]
 repeat' first | (with_reducible first | refine k_seq ?_ | refine k_skip ?_ | refine k_blkS ?_ | refine k_blkR ?_ | refine k_blkC ?_ | refine k_blkH ?_ | refine k_blkB ?_ | refine k_blkK ?_ | refine k_blkE ?_ | refine k_reg ?_) | with_reducible refine r_done ?_ | with_reducible refine s_go (by simp (disch := omega) only [RG65, EVA, plug, eq_self, simprocAttr]; with_reducible rfl) ?_ | ((with_reducible refine chk_r ?_); refine r_callF (by simp only [CA, simprocAttr]; rfl) (by exact rfl) (by simp only [CA, simprocAttr]; rfl) rfl ?_) | (with_reducible refine k_condP (by simp only [GA, simprocAttr]; rfl) (by first | (simp only [BO]; rfl) | rfl) (fun ht => ?_) (fun ht => ?_) <;> try (first | exact False.elim ht | exact absurd rfl ht | exact absurd trivial ht | exact Bool.noConfusion ht)) | (with_reducible refine k_ret ?_; repeat with_reducible (first | refine ret_thru ?_ | refine ret_blk ?_ | refine fin ?_)) | (with_reducible refine k_exit ?_; repeat with_reducible (first | refine thru ?_ | refine out_blk ?_ | refine pass (by decide) ?_)) | ((first | refine post1 ?_ | refine post2 ?_ | refine post3 ?_); simp only [GA, simprocAttr]) | refine post0 ?_
 refine k_blk (k_loopS (X := Unit) [0, 1, 7, 8] l.length (fun k _ => [(0, vH l), (1, .fn g [] caps), (7, .i .i64 l.length), (8, .i .i64 (k : Int))]) (fun k _ h => ∀ j, j < k → p (hD l j) = false) () (by simp only [Am.keep, List.map_cons, List.map_nil, GA, simprocAttr]; try rfl) (fun j hj => by omega) ?_)
 rintro k _ h hk hf ok pos
 by_cases hlt : k < l.length
 ·have hlt' : (k : Int) < l.length := by omega
  have gl := rdH hlt
  have q := hp (hD l k)
  cases hm : p (hD l k) with
  | true =>
    rw [hm] at q
    rw [fi_at (p := fun i => p (hD l i)) hf hm hlt]
    repeat' first | (with_reducible first | refine k_seq ?_ | refine k_skip ?_ | refine k_blkS ?_ | refine k_blkR ?_ | refine k_blkC ?_ | refine k_blkH ?_ | refine k_blkB ?_ | refine k_blkK ?_ | refine k_blkE ?_ | refine k_reg ?_) | with_reducible refine r_done ?_ | with_reducible refine s_go (by simp (disch := omega) only [hlt', gl, RG65, EVA, plug, eq_self, simprocAttr]; with_reducible rfl) ?_ | ((with_reducible refine chk_r ?_); refine r_callF (by simp only [CA, simprocAttr]; rfl) (by exact rfl) (by simp only [CA, simprocAttr]; rfl) rfl ?_) | ((with_reducible refine chk_r ?_); refine r_callP (by simp only [CA, simprocAttr]; rfl) (by simp only [CA, simprocAttr]; rfl) (by first | exact q _) rfl ?_) | (with_reducible refine k_condP (by simp only [GA, simprocAttr]; rfl) (by first | (simp only [BO]; rfl) | rfl) (fun ht => ?_) (fun ht => ?_) <;> try (first | exact False.elim ht | exact absurd rfl ht | exact absurd trivial ht | exact Bool.noConfusion ht)) | (with_reducible refine k_ret ?_; repeat with_reducible (first | refine ret_thru ?_ | refine ret_blk ?_ | refine fin ?_)) | (with_reducible refine k_exit ?_; repeat with_reducible (first | refine thru ?_ | refine out_blk ?_ | refine pass (by decide) ?_)) | ((first | refine post1 ?_ | refine post2 ?_ | refine post3 ?_); simp only [GA, simprocAttr]) | refine post0 ?_
    all_goals first | exact ends_of | exact ends_eq rfl
  | false =>
    rw [hm] at q
    have hf2 : ∀ j, j < k + 1 → p (hD l j) = false := fun j hj => by
     by_cases e : j = k
     ·subst e; exact hm
     ·exact hf j (by omega)
    repeat' first | (with_reducible first | refine k_seq ?_ | refine k_skip ?_ | refine k_blkS ?_ | refine k_blkR ?_ | refine k_blkC ?_ | refine k_blkH ?_ | refine k_blkB ?_ | refine k_blkK ?_ | refine k_blkE ?_ | refine k_reg ?_) | with_reducible refine r_done ?_ | with_reducible refine s_go (by simp (disch := omega) only [hlt', gl, RG65, EVA, plug, eq_self, simprocAttr]; with_reducible rfl) ?_ | ((with_reducible refine chk_r ?_); refine r_callF (by simp only [CA, simprocAttr]; rfl) (by exact rfl) (by simp only [CA, simprocAttr]; rfl) rfl ?_) | ((with_reducible refine chk_r ?_); refine r_callP (by simp only [CA, simprocAttr]; rfl) (by simp only [CA, simprocAttr]; rfl) (by first | exact q _) rfl ?_) | (with_reducible refine k_condP (by simp only [GA, simprocAttr]; rfl) (by first | (simp only [BO]; rfl) | rfl) (fun ht => ?_) (fun ht => ?_) <;> try (first | exact False.elim ht | exact absurd rfl ht | exact absurd trivial ht | exact Bool.noConfusion ht)) | (with_reducible refine k_ret ?_; repeat with_reducible (first | refine ret_thru ?_ | refine ret_blk ?_ | refine fin ?_)) | (with_reducible refine k_exit ?_; repeat with_reducible (first | refine thru ?_ | refine out_blk ?_ | refine pass (by decide) ?_)) | ((first | refine post1 ?_ | refine post2 ?_ | refine post3 ?_); simp only [GA, simprocAttr]) | refine post0 ?_
    exact ⟨hlt, (), (by simp only [Am.keep, List.map_cons, List.map_nil, GA, simprocAttr]; try rfl), hf2⟩
 ·obtain rfl : k = l.length := by omega
  have hlt' : ¬ (l.length : Int) < l.length := by omega
  rw [fi_none (p := fun i => p (hD l i)) hf]
  repeat' first | (with_reducible first | refine k_seq ?_ | refine k_skip ?_ | refine k_blkS ?_ | refine k_blkR ?_ | refine k_blkC ?_ | refine k_blkH ?_ | refine k_blkB ?_ | refine k_blkK ?_ | refine k_blkE ?_ | refine k_reg ?_) | with_reducible refine r_done ?_ | with_reducible refine s_go (by simp (disch := omega) only [hlt', RG65, EVA, plug, eq_self, simprocAttr]; with_reducible rfl) ?_ | ((with_reducible refine chk_r ?_); refine r_callF (by simp only [CA, simprocAttr]; rfl) (by exact rfl) (by simp only [CA, simprocAttr]; rfl) rfl ?_) | (with_reducible refine k_condP (by simp only [GA, simprocAttr]; rfl) (by first | (simp only [BO]; rfl) | rfl) (fun ht => ?_) (fun ht => ?_) <;> try (first | exact False.elim ht | exact absurd rfl ht | exact absurd trivial ht | exact Bool.noConfusion ht)) | (with_reducible refine k_ret ?_; repeat with_reducible (first | refine ret_thru ?_ | refine ret_blk ?_ | refine fin ?_)) | (with_reducible refine k_exit ?_; repeat with_reducible (first | refine thru ?_ | refine out_blk ?_ | refine pass (by decide) ?_)) | ((first | refine post1 ?_ | refine post2 ?_ | refine post3 ?_); simp only [GA, simprocAttr]) | refine post0 ?_
  all_goals first | exact ends_of | exact ends_eq rfl
def anyH (p : Hd → Bool) (l : List Hd) : Bool := decide (0 ≤ fi (fun i => p (hD l i)) l.length)
theorem anyH_iff {p : Hd → Bool} {l : List Hd} : anyH p l = true ↔ ∃ j, j < l.length ∧ p (hD l j) = true := by
 unfold anyH
 rw [decide_eq_true_eq, fi_ge]
theorem pc76 (l : List Hd) (hl : l.length ≤ 9223372036854775807) (g : Nat) (caps : List AV) (hcp : AV.plains caps = true) (p : Hd → Bool) (hp : ∀ x, PC Tryd.prog g (.ag (eH x) :: caps) (.b (p x))) :
 PC Tryd.prog 34 [vH l, .fn g [] caps] (.b (anyH p l)) := by
 have q := pc85 l hl g caps hcp p hp
 refine pc_fn fn34 (by simp only [AV.plains, AV.plain, il_plain, bl_plain, Bool.and_true, Bool.true_and, Bool.and_self, fleH_plain, hcp]) (by simp only [AV.plains, AV.plain, il_plain, bl_plain, Bool.and_true, Bool.true_and, Bool.and_self, fleH_plain, hcp]) (Nat.le_of_ble_eq_true rfl) ?_
 rw [initSt2]
 repeat' first | (with_reducible first | refine k_seq ?_ | refine k_skip ?_ | refine k_blkS ?_ | refine k_blkR ?_ | refine k_blkC ?_ | refine k_blkH ?_ | refine k_blkB ?_ | refine k_blkK ?_ | refine k_blkE ?_ | refine k_reg ?_) | with_reducible refine r_done ?_ | with_reducible refine s_go (by simp (disch := omega) only [c34r0, c34r1, EVA, plug, eq_self, simprocAttr]; with_reducible rfl) ?_ | ((with_reducible refine chk_r ?_); refine r_callF (by simp only [CA, simprocAttr]; rfl) (by exact rfl) (by simp only [CA, simprocAttr]; rfl) rfl ?_) | ((with_reducible refine chk_r ?_); refine r_callP (by simp only [CA, simprocAttr]; rfl) (by simp only [CA, simprocAttr]; rfl) (by first | exact q _) rfl ?_) | (with_reducible refine k_condP (by simp only [GA, simprocAttr]; rfl) (by first | (simp only [BO]; rfl) | rfl) (fun ht => ?_) (fun ht => ?_) <;> try (first | exact False.elim ht | exact absurd rfl ht | exact absurd trivial ht | exact Bool.noConfusion ht)) | (with_reducible refine k_ret ?_; repeat with_reducible (first | refine ret_thru ?_ | refine ret_blk ?_ | refine fin ?_)) | (with_reducible refine k_exit ?_; repeat with_reducible (first | refine thru ?_ | refine out_blk ?_ | refine pass (by decide) ?_)) | ((first | refine post1 ?_ | refine post2 ?_ | refine post3 ?_); simp only [GA, simprocAttr]) | refine post0 ?_
 all_goals first | exact ends_of | exact ends_eq rfl
theorem pc77 (x : Hd) : PC Tryd.prog 35 [.ag (eH x)] (.b (!hdOk x)) := by
 refine pc_fn fn35 (by simp only [AV.plains, AV.plain, il_plain, bl_plain, Bool.and_true, Bool.true_and, Bool.and_self]) (by simp only [AV.plains, AV.plain, il_plain, bl_plain, Bool.and_true, Bool.true_and, Bool.and_self]) (Nat.le_of_ble_eq_true rfl) ?_
 rw [initSt1]
 repeat' first | (with_reducible first | refine k_seq ?_ | refine k_skip ?_ | refine k_blkS ?_ | refine k_blkR ?_ | refine k_blkC ?_ | refine k_blkH ?_ | refine k_blkB ?_ | refine k_blkK ?_ | refine k_blkE ?_ | refine k_reg ?_) | with_reducible refine r_done ?_ | with_reducible refine s_go (by simp (disch := omega) only [eH_rd, c35r0, c35r1, EVA, plug, eq_self, simprocAttr]; with_reducible rfl) ?_ | ((with_reducible refine chk_r ?_); refine r_callF (by simp only [CA, simprocAttr]; rfl) (by exact rfl) (by simp only [CA, simprocAttr]; rfl) rfl ?_) | ((with_reducible refine chk_r ?_); refine r_callP (by simp only [CA, simprocAttr]; rfl) (by simp only [CA, simprocAttr]; rfl) (by first | exact pc78 _ _) rfl ?_) | (with_reducible refine k_condP (by simp only [GA, simprocAttr]; rfl) (by first | (simp only [BO]; rfl) | rfl) (fun ht => ?_) (fun ht => ?_) <;> try (first | exact False.elim ht | exact absurd rfl ht | exact absurd trivial ht | exact Bool.noConfusion ht)) | (with_reducible refine k_ret ?_; repeat with_reducible (first | refine ret_thru ?_ | refine ret_blk ?_ | refine fin ?_)) | (with_reducible refine k_exit ?_; repeat with_reducible (first | refine thru ?_ | refine out_blk ?_ | refine pass (by decide) ?_)) | ((first | refine post1 ?_ | refine post2 ?_ | refine post3 ?_); simp only [GA, simprocAttr]) | refine post0 ?_
 all_goals first | exact ends_of | exact ends_eq rfl
theorem pc80 (x : Hd) : PC Tryd.prog 38 [.ag (eH x)] (.i .i64 x.n) := by
 refine pc_fn fn38 (by simp only [AV.plains, AV.plain, il_plain, bl_plain, Bool.and_true, Bool.true_and, Bool.and_self]) (by simp only [AV.plains, AV.plain, il_plain, bl_plain, Bool.and_true, Bool.true_and, Bool.and_self]) (Nat.le_of_ble_eq_true rfl) ?_
 rw [initSt1]
 repeat' first | (with_reducible first | refine k_seq ?_ | refine k_skip ?_ | refine k_blkS ?_ | refine k_blkR ?_ | refine k_blkC ?_ | refine k_blkH ?_ | refine k_blkB ?_ | refine k_blkK ?_ | refine k_blkE ?_ | refine k_reg ?_) | with_reducible refine r_done ?_ | with_reducible refine s_go (by simp (disch := omega) only [eH_rn, c38r0, c38r1, EVA, plug, eq_self, simprocAttr]; with_reducible rfl) ?_ | ((with_reducible refine chk_r ?_); refine r_callF (by simp only [CA, simprocAttr]; rfl) (by exact rfl) (by simp only [CA, simprocAttr]; rfl) rfl ?_) | (with_reducible refine k_condP (by simp only [GA, simprocAttr]; rfl) (by first | (simp only [BO]; rfl) | rfl) (fun ht => ?_) (fun ht => ?_) <;> try (first | exact False.elim ht | exact absurd rfl ht | exact absurd trivial ht | exact Bool.noConfusion ht)) | (with_reducible refine k_ret ?_; repeat with_reducible (first | refine ret_thru ?_ | refine ret_blk ?_ | refine fin ?_)) | (with_reducible refine k_exit ?_; repeat with_reducible (first | refine thru ?_ | refine out_blk ?_ | refine pass (by decide) ?_)) | ((first | refine post1 ?_ | refine post2 ?_ | refine post3 ?_); simp only [GA, simprocAttr]) | refine post0 ?_
 all_goals first | exact ends_of | exact ends_eq rfl
def hN (l : List Hd) (i : Nat) : Int := (hD l i).n
theorem RG37 : (type_of% @c37r0.eq_1) ∧ (type_of% @c37r1.eq_1) ∧ (type_of% @c37r2.eq_1) ∧ (type_of% @c37r3.eq_1) ∧ (type_of% @c37r4.eq_1) ∧ (type_of% @c37r5.eq_1) ∧ (type_of% @c37r6.eq_1) ∧ (type_of% @c37r7.eq_1) ∧ (type_of% @c37r8.eq_1) ∧ (type_of% @c37r10.eq_1) := ⟨@c37r0.eq_1, @c37r1.eq_1, @c37r2.eq_1, @c37r3.eq_1, @c37r4.eq_1, @c37r5.eq_1, @c37r6.eq_1, @c37r7.eq_1, @c37r8.eq_1, @c37r10.eq_1⟩
theorem pc79 (l : List Hd) (hl : l.length ≤ 9223372036854775807) : PC Tryd.prog 37 [vH l, .fn 38 [] []] (.b (dis (hN l) l.length)) := by
 refine pc_fn fn37 (by simp only [AV.plains, AV.plain, il_plain, bl_plain, Bool.and_true, Bool.true_and, Bool.and_self, fleH_plain]) (by simp only [AV.plains, AV.plain, il_plain, bl_plain, Bool.and_true, Bool.true_and, Bool.and_self, fleH_plain]) (Nat.le_of_ble_eq_true rfl) ?_
 rw [initSt2]
 repeat' first | (with_reducible first | refine k_seq ?_ | refine k_skip ?_ | refine k_blkS ?_ | refine k_blkR ?_ | refine k_blkC ?_ | refine k_blkH ?_ | refine k_blkB ?_ | refine k_blkK ?_ | refine k_blkE ?_ | refine k_reg ?_) | with_reducible refine r_done ?_ | with_reducible refine s_go (by simp (disch := omega) only [RG37, EVA, plug, eq_self, simprocAttr]; with_reducible rfl) ?_ | ((with_reducible refine chk_r ?_); refine r_callF (by simp only [CA, simprocAttr]; rfl) (by exact rfl) (by simp only [CA, simprocAttr]; rfl) rfl ?_) | (with_reducible refine k_condP (by simp only [GA, simprocAttr]; rfl) (by first | (simp only [BO]; rfl) | rfl) (fun ht => ?_) (fun ht => ?_) <;> try (first | exact False.elim ht | exact absurd rfl ht | exact absurd trivial ht | exact Bool.noConfusion ht)) | (with_reducible refine k_ret ?_; repeat with_reducible (first | refine ret_thru ?_ | refine ret_blk ?_ | refine fin ?_)) | (with_reducible refine k_exit ?_; repeat with_reducible (first | refine thru ?_ | refine out_blk ?_ | refine pass (by decide) ?_)) | ((first | refine post1 ?_ | refine post2 ?_ | refine post3 ?_); simp only [GA, simprocAttr]) | refine post0 ?_
 refine k_blk (k_loopS (X := Nat × List (AV × AV)) [1, 5, 9, 10, 11] l.length (fun k x => [(1, .fn 38 [] []), (5, .mp x.1), (9, vH l), (10, .i .i64 l.length), (11, .i .i64 (k : Int))])
  (fun k x h => h.m x.1 = some (.map x.2) ∧ (∀ j, j < k → ∀ i, i < j → hN l i ≠ hN l j) ∧ MFi x.2 (setOf fun n => ∃ i, i < k ∧ hN l i = n)) (_, _) (by simp only [Am.keep, List.map_cons, List.map_nil, GA, simprocAttr]; try rfl) ⟨by simp (disch := omega) only [RG37, EVA, plug, eq_self, simprocAttr] <;> rfl, fun j hj => by omega, ?_⟩ ?_)
 ·exact MFi.set_nil fun a ⟨i, hi, _⟩ => by omega
 rintro k ⟨tk, es⟩ h hk ⟨hm, hv, hf⟩ ok pos
 simp only at hm hf ⊢
 have htk := ok.m hm
 have htk' : ¬ tk = h.nx := by omega
 by_cases hlt : k < l.length
 ·have rT := rdH hlt
  have hlt' : (k : Int) < l.length := by omega
  have lk := MFi.set_lk hf (hD l k).n
  have u1 := (MFi.up hf (hD l k).n (.b true)).1
  have q := pc80 (hD l k)
  repeat' first | (with_reducible first | refine k_seq ?_ | refine k_skip ?_ | refine k_blkS ?_ | refine k_blkR ?_ | refine k_blkC ?_ | refine k_blkH ?_ | refine k_blkB ?_ | refine k_blkK ?_ | refine k_blkE ?_ | refine k_reg ?_) | with_reducible refine r_done ?_ | with_reducible refine s_go (by simp (disch := omega) only [hm, rT, hlt', lk, u1, eH_rd, htk', RG37, EVA, plug, eq_self, simprocAttr]; with_reducible rfl) ?_ | ((with_reducible refine chk_r ?_); refine r_callF (by simp only [CA, simprocAttr]; rfl) (by exact rfl) (by simp only [CA, simprocAttr]; rfl) rfl ?_) | ((with_reducible refine chk_r ?_); refine r_callP (by simp only [CA, simprocAttr]; rfl) (by simp only [CA, simprocAttr]; rfl) (by first | exact q _) rfl ?_) | (with_reducible refine k_condP (by simp only [GA, simprocAttr]; rfl) (by first | (simp only [BO]; rfl) | rfl) (fun ht => ?_) (fun ht => ?_) <;> try (first | exact False.elim ht | exact absurd rfl ht | exact absurd trivial ht | exact Bool.noConfusion ht)) | (with_reducible refine k_ret ?_; repeat with_reducible (first | refine ret_thru ?_ | refine ret_blk ?_ | refine fin ?_)) | (with_reducible refine k_exit ?_; repeat with_reducible (first | refine thru ?_ | refine out_blk ?_ | refine pass (by decide) ?_)) | ((first | refine post1 ?_ | refine post2 ?_ | refine post3 ?_); simp only [GA, simprocAttr]) | refine post0 ?_
  ·obtain ⟨i, hi, e⟩ := ht
   rw [dis_no hlt hi e]
   exact ends_of
  ·refine ⟨hlt, ⟨tk, _⟩, (by simp only [Am.keep, List.map_cons, List.map_nil, GA, simprocAttr]; try rfl), by simp (disch := omega) only [htk', RG37, EVA, plug, eq_self, simprocAttr] <;> rfl, fun j hj i hi => ?_, MFi.set_up hf _ _ fun b => ⟨fun ⟨i, hi, e⟩ => ?_, fun hb => ?_⟩⟩
   ·by_cases e : j = k
    ·subst e; exact fun q => ht ⟨i, hi, q⟩
    ·exact hv j (by omega) i hi
   ·by_cases hk : i = k
    ·subst hk; exact .inl e.symm
    ·exact .inr ⟨i, by omega, e⟩
   ·rcases hb with rfl | ⟨i, hi, e⟩
    ·exact ⟨k, by omega, rfl⟩
    ·exact ⟨i, by omega, e⟩
 ·have hlt' : ¬ (k : Int) < l.length := by omega
  obtain rfl : k = l.length := by omega
  repeat' first | (with_reducible first | refine k_seq ?_ | refine k_skip ?_ | refine k_blkS ?_ | refine k_blkR ?_ | refine k_blkC ?_ | refine k_blkH ?_ | refine k_blkB ?_ | refine k_blkK ?_ | refine k_blkE ?_ | refine k_reg ?_) | with_reducible refine r_done ?_ | with_reducible refine s_go (by simp (disch := omega) only [hlt', RG37, EVA, plug, eq_self, simprocAttr]; with_reducible rfl) ?_ | ((with_reducible refine chk_r ?_); refine r_callF (by simp only [CA, simprocAttr]; rfl) (by exact rfl) (by simp only [CA, simprocAttr]; rfl) rfl ?_) | (with_reducible refine k_condP (by simp only [GA, simprocAttr]; rfl) (by first | (simp only [BO]; rfl) | rfl) (fun ht => ?_) (fun ht => ?_) <;> try (first | exact False.elim ht | exact absurd rfl ht | exact absurd trivial ht | exact Bool.noConfusion ht)) | (with_reducible refine k_ret ?_; repeat with_reducible (first | refine ret_thru ?_ | refine ret_blk ?_ | refine fin ?_)) | (with_reducible refine k_exit ?_; repeat with_reducible (first | refine thru ?_ | refine out_blk ?_ | refine pass (by decide) ?_)) | ((first | refine post1 ?_ | refine post2 ?_ | refine post3 ?_); simp only [GA, simprocAttr]) | refine post0 ?_
  rw [dis_iff.2 hv]
  exact ends_of
def hdsOk (l : List Hd) : Bool := decide ((l.length : Int) ≤ 40) && !anyH (fun x => !hdOk x) l && dis (hN l) l.length
theorem hdsOk_iff {l : List Hd} : hdsOk l = true ↔ l.length ≤ 40 ∧ (∀ j, j < l.length → hdOk (hD l j) = true) ∧ ∀ j, j < l.length → ∀ i, i < j → hN l i ≠ hN l j := by
 have e : anyH (fun x => !hdOk x) l = false ↔ ∀ j, j < l.length → hdOk (hD l j) = true := by
  rw [← Bool.not_eq_true, anyH_iff]
  constructor
  ·intro hn j hj
   cases q : hdOk (hD l j) with
   | true => rfl
   | false => exact absurd ⟨j, hj, by rw [q]; rfl⟩ hn
  ·rintro hall ⟨j, hj, q⟩
   rw [hall j hj] at q
   cases q
 simp only [hdsOk, Bool.and_eq_true, decide_eq_true_eq, Bool.not_eq_true', e, dis_iff]
 constructor
 ·rintro ⟨⟨h1, h2⟩, h3⟩; exact ⟨by omega, h2, h3⟩
 ·rintro ⟨h1, h2, h3⟩; exact ⟨⟨by omega, h2⟩, h3⟩
theorem pc60 (l : List Hd) (hl : l.length ≤ 9223372036854775807) : PC Tryd.prog 10 [vH l] (.b (hdsOk l)) := by
 have q1 := pc76 l hl 35 [] rfl _ pc77
 have q2 := pc79 l hl
 unfold hdsOk
 refine pc_fn fn10 (by simp only [AV.plains, AV.plain, il_plain, bl_plain, Bool.and_true, Bool.true_and, Bool.and_self, fleH_plain]) (by simp only [AV.plains, AV.plain, il_plain, bl_plain, Bool.and_true, Bool.true_and, Bool.and_self, fleH_plain]) (Nat.le_of_ble_eq_true rfl) ?_
 rw [initSt1]
 repeat' first | (with_reducible first | refine k_seq ?_ | refine k_skip ?_ | refine k_blkS ?_ | refine k_blkR ?_ | refine k_blkC ?_ | refine k_blkH ?_ | refine k_blkB ?_ | refine k_blkK ?_ | refine k_blkE ?_ | refine k_reg ?_) | with_reducible refine r_done ?_ | with_reducible refine s_go (by simp (disch := omega) only [c10r0, c10r1, EVA, plug, eq_self, simprocAttr]; with_reducible rfl) ?_ | ((with_reducible refine chk_r ?_); refine r_callF (by simp only [CA, simprocAttr]; rfl) (by exact rfl) (by simp only [CA, simprocAttr]; rfl) rfl ?_) | ((with_reducible refine chk_r ?_); refine r_callP (by simp only [CA, simprocAttr]; rfl) (by simp only [CA, simprocAttr]; rfl) (by first | exact q1 _ | exact q2 _) rfl ?_) | ((with_reducible refine chk_r ?_); refine r_callG (by simp only [CA, simprocAttr]; rfl) (by simp only [CA, simprocAttr]; rfl) (by simp only [CA, simprocAttr]; rfl) (by intro hg; (try simp only [BO] at hg); first | exact q1 _ | exact q2 _) rfl ?_) | (with_reducible refine k_condP (by simp only [GA, simprocAttr]; rfl) (by first | (simp only [BO]; rfl) | rfl) (fun ht => ?_) (fun ht => ?_) <;> try (first | exact False.elim ht | exact absurd rfl ht | exact absurd trivial ht | exact Bool.noConfusion ht)) | (with_reducible refine k_ret ?_; repeat with_reducible (first | refine ret_thru ?_ | refine ret_blk ?_ | refine fin ?_)) | (with_reducible refine k_exit ?_; repeat with_reducible (first | refine thru ?_ | refine out_blk ?_ | refine pass (by decide) ?_)) | ((first | refine post1 ?_ | refine post2 ?_ | refine post3 ?_); simp only [GA, simprocAttr]) | refine post0 ?_
 all_goals first | exact ends_of | exact ends_eq rfl
theorem RG11 : (type_of% @c11r0.eq_1) ∧ (type_of% @c11r1.eq_1) ∧ (type_of% @c11r2.eq_1) ∧ (type_of% @c11r3.eq_1) ∧ (type_of% @c11r4.eq_1) ∧ (type_of% @c11r5.eq_1) ∧ (type_of% @c11r6.eq_1) ∧ (type_of% @c11r7.eq_1) ∧ (type_of% @c11r8.eq_1) ∧ (type_of% @c11r9.eq_1) ∧ (type_of% @c11r10.eq_1) ∧ (type_of% @c11r11.eq_1) ∧ (type_of% @c11r13.eq_1) ∧ (type_of% @c11r15.eq_1) := ⟨@c11r0.eq_1, @c11r1.eq_1, @c11r2.eq_1, @c11r3.eq_1, @c11r4.eq_1, @c11r5.eq_1, @c11r6.eq_1, @c11r7.eq_1, @c11r8.eq_1, @c11r9.eq_1, @c11r10.eq_1, @c11r11.eq_1, @c11r13.eq_1, @c11r15.eq_1⟩
theorem pc67 (l : List Hd) (hl : l.length ≤ 9223372036854775807) : PC Tryd.prog 11 [vH l] (.b (hdsOk l)) := by
 refine pc_fn fn11 (by simp only [AV.plains, AV.plain, il_plain, bl_plain, Bool.and_true, Bool.true_and, Bool.and_self, fleH_plain]) (by simp only [AV.plains, AV.plain, il_plain, bl_plain, Bool.and_true, Bool.true_and, Bool.and_self, fleH_plain]) (Nat.le_of_ble_eq_true rfl) ?_
 rw [initSt1]
 repeat' first | (with_reducible first | refine k_seq ?_ | refine k_skip ?_ | refine k_blkS ?_ | refine k_blkR ?_ | refine k_blkC ?_ | refine k_blkH ?_ | refine k_blkB ?_ | refine k_blkK ?_ | refine k_blkE ?_ | refine k_reg ?_) | with_reducible refine r_done ?_ | with_reducible refine s_go (by simp (disch := omega) only [RG11, EVA, plug, eq_self, simprocAttr]; with_reducible rfl) ?_ | ((with_reducible refine chk_r ?_); refine r_callF (by simp only [CA, simprocAttr]; rfl) (by exact rfl) (by simp only [CA, simprocAttr]; rfl) rfl ?_) | (with_reducible refine k_condP (by simp only [GA, simprocAttr]; rfl) (by first | (simp only [BO]; rfl) | rfl) (fun ht => ?_) (fun ht => ?_) <;> try (first | exact False.elim ht | exact absurd rfl ht | exact absurd trivial ht | exact Bool.noConfusion ht)) | (with_reducible refine k_ret ?_; repeat with_reducible (first | refine ret_thru ?_ | refine ret_blk ?_ | refine fin ?_)) | (with_reducible refine k_exit ?_; repeat with_reducible (first | refine thru ?_ | refine out_blk ?_ | refine pass (by decide) ?_)) | ((first | refine post1 ?_ | refine post2 ?_ | refine post3 ?_); simp only [GA, simprocAttr]) | refine post0 ?_
 refine k_blk (k_loopS (X := Unit) [0, 7, 8, 9] l.length (fun k _ => [(0, vH l), (7, vH l), (8, .i .i64 l.length), (9, .i .i64 (k : Int))]) (fun k _ h => ∀ j, j < k → hdOk (hD l j) = true ∧ ∀ i, i < j → hN l i ≠ hN l j) () (by simp only [Am.keep, List.map_cons, List.map_nil, GA, simprocAttr]; try rfl) (fun j hj => by omega) ?_)
 rintro k _ h hk hall ok pos
 have no : ∀ {P : Prop}, (hdsOk l = true → P) → ¬ P → hdsOk l = false := fun f g => by
  cases q : hdsOk l with
  | false => rfl
  | true => exact absurd (f q) g
 by_cases klt : k < l.length
 ·have klt' : (k : Int) < l.length := by omega
  have rT := rdH klt
  have q := pc61 (hD l k)
  cases c1 : hdOk (hD l k) with
  | false =>
    rw [c1] at q
    repeat' first | (with_reducible first | refine k_seq ?_ | refine k_skip ?_ | refine k_blkS ?_ | refine k_blkR ?_ | refine k_blkC ?_ | refine k_blkH ?_ | refine k_blkB ?_ | refine k_blkK ?_ | refine k_blkE ?_ | refine k_reg ?_) | with_reducible refine r_done ?_ | with_reducible refine s_go (by simp (disch := omega) only [klt', rT, eH_rd, RG11, EVA, plug, eq_self, simprocAttr]; with_reducible rfl) ?_ | ((with_reducible refine chk_r ?_); refine r_callF (by simp only [CA, simprocAttr]; rfl) (by exact rfl) (by simp only [CA, simprocAttr]; rfl) rfl ?_) | ((with_reducible refine chk_r ?_); refine r_callP (by simp only [CA, simprocAttr]; rfl) (by simp only [CA, simprocAttr]; rfl) (by first | exact q _) rfl ?_) | (with_reducible refine k_condP (by simp only [GA, simprocAttr]; rfl) (by first | (simp only [BO]; rfl) | rfl) (fun ht => ?_) (fun ht => ?_) <;> try (first | exact False.elim ht | exact absurd rfl ht | exact absurd trivial ht | exact Bool.noConfusion ht)) | (with_reducible refine k_ret ?_; repeat with_reducible (first | refine ret_thru ?_ | refine ret_blk ?_ | refine fin ?_)) | (with_reducible refine k_exit ?_; repeat with_reducible (first | refine thru ?_ | refine out_blk ?_ | refine pass (by decide) ?_)) | ((first | refine post1 ?_ | refine post2 ?_ | refine post3 ?_); simp only [GA, simprocAttr]) | refine post0 ?_
    all_goals (rw [no (fun q => (hdsOk_iff.1 q).2.1 k klt) (by rw [c1]; simp)]; exact ends_of)
  | true =>
    rw [c1] at q
    repeat' first | (with_reducible first | refine k_seq ?_ | refine k_skip ?_ | refine k_blkS ?_ | refine k_blkR ?_ | refine k_blkC ?_ | refine k_blkH ?_ | refine k_blkB ?_ | refine k_blkK ?_ | refine k_blkE ?_ | refine k_reg ?_) | with_reducible refine r_done ?_ | with_reducible refine s_go (by simp (disch := omega) only [klt', rT, eH_rd, RG11, EVA, plug, eq_self, simprocAttr]; with_reducible rfl) ?_ | ((with_reducible refine chk_r ?_); refine r_callF (by simp only [CA, simprocAttr]; rfl) (by exact rfl) (by simp only [CA, simprocAttr]; rfl) rfl ?_) | ((with_reducible refine chk_r ?_); refine r_callP (by simp only [CA, simprocAttr]; rfl) (by simp only [CA, simprocAttr]; rfl) (by first | exact q _) rfl ?_) | (with_reducible refine k_condP (by simp only [GA, simprocAttr]; rfl) (by first | (simp only [BO]; rfl) | rfl) (fun ht => ?_) (fun ht => ?_) <;> try (first | exact False.elim ht | exact absurd rfl ht | exact absurd trivial ht | exact Bool.noConfusion ht)) | (with_reducible refine k_ret ?_; repeat with_reducible (first | refine ret_thru ?_ | refine ret_blk ?_ | refine fin ?_)) | (with_reducible refine k_exit ?_; repeat with_reducible (first | refine thru ?_ | refine out_blk ?_ | refine pass (by decide) ?_)) | ((first | refine post1 ?_ | refine post2 ?_ | refine post3 ?_); simp only [GA, simprocAttr]) | refine post0 ?_
    refine k_blk (k_loopS (X := Unit) [0, 4, 7, 8, 9, 19, 20, 21] k (fun j _ => [(0, vH l), (4, .p (h.nx + 1 + 3) 0), (7, vH l), (8, .i .i64 l.length), (9, .i .i64 (k : Int)), (19, .vs k ((fl eH l).take (k * 6))), (20, .i .i64 (k : Int)), (21, .i .i64 (j : Int))]) (fun j _ h' => h'.m (h.nx + 1 + 3) = some (.cells true (eH (hD l k))) ∧ ∀ i, i < j → hN l i ≠ hN l k) () (by simp only [Am.keep, List.map_cons, List.map_nil, GA, simprocAttr]; try rfl) ⟨by simp (disch := omega) only [RG11, EVA, plug, eq_self, simprocAttr] <;> rfl, fun i hi => by omega⟩ ?_)
    rintro j _ h' hj ⟨hm', hd⟩ ok' pos'
    have lt4 := ok'.m hm'
    by_cases hjk : j < k
    ·have hjk' : (j : Int) < k := by omega
     have rJ := rdtH klt hjk
     repeat' first | (with_reducible first | refine k_seq ?_ | refine k_skip ?_ | refine k_blkS ?_ | refine k_blkR ?_ | refine k_blkC ?_ | refine k_blkH ?_ | refine k_blkB ?_ | refine k_blkK ?_ | refine k_blkE ?_ | refine k_reg ?_) | with_reducible refine r_done ?_ | with_reducible refine s_go (by simp (disch := omega) only [hjk', rJ, hm', row_m hm', read_row (row_m hm'), eH_rn, RG11, EVA, plug, eq_self, simprocAttr]; with_reducible rfl) ?_ | ((with_reducible refine chk_r ?_); refine r_callF (by simp only [CA, simprocAttr]; rfl) (by exact rfl) (by simp only [CA, simprocAttr]; rfl) rfl ?_) | (with_reducible refine k_condP (by simp only [GA, simprocAttr]; rfl) (by first | (simp only [BO]; rfl) | rfl) (fun ht => ?_) (fun ht => ?_) <;> try (first | exact False.elim ht | exact absurd rfl ht | exact absurd trivial ht | exact Bool.noConfusion ht)) | (with_reducible refine k_ret ?_; repeat with_reducible (first | refine ret_thru ?_ | refine ret_blk ?_ | refine fin ?_)) | (with_reducible refine k_exit ?_; repeat with_reducible (first | refine thru ?_ | refine out_blk ?_ | refine pass (by decide) ?_)) | ((first | refine post1 ?_ | refine post2 ?_ | refine post3 ?_); simp only [GA, simprocAttr]) | refine post0 ?_
     ·rw [no (fun q => (hdsOk_iff.1 q).2.2 k klt j hjk) (fun q => q ht)]
      exact ends_of
     ·refine ⟨hjk, (), (by simp only [Am.keep, List.map_cons, List.map_nil, GA, simprocAttr]; try rfl), by simp (disch := omega) only [hm', RG11, EVA, plug, eq_self, simprocAttr], fun i hi => ?_⟩
      by_cases e : i = j
      ·subst e; exact ht
      ·exact hd i (by omega)
    ·obtain rfl : j = k := by omega
     have hjk' : ¬ (j : Int) < j := by omega
     repeat' first | (with_reducible first | refine k_seq ?_ | refine k_skip ?_ | refine k_blkS ?_ | refine k_blkR ?_ | refine k_blkC ?_ | refine k_blkH ?_ | refine k_blkB ?_ | refine k_blkK ?_ | refine k_blkE ?_ | refine k_reg ?_) | with_reducible refine r_done ?_ | with_reducible refine s_go (by simp (disch := omega) only [hjk', RG11, EVA, plug, eq_self, simprocAttr]; with_reducible rfl) ?_ | ((with_reducible refine chk_r ?_); refine r_callF (by simp only [CA, simprocAttr]; rfl) (by exact rfl) (by simp only [CA, simprocAttr]; rfl) rfl ?_) | (with_reducible refine k_condP (by simp only [GA, simprocAttr]; rfl) (by first | (simp only [BO]; rfl) | rfl) (fun ht => ?_) (fun ht => ?_) <;> try (first | exact False.elim ht | exact absurd rfl ht | exact absurd trivial ht | exact Bool.noConfusion ht)) | (with_reducible refine k_ret ?_; repeat with_reducible (first | refine ret_thru ?_ | refine ret_blk ?_ | refine fin ?_)) | (with_reducible refine k_exit ?_; repeat with_reducible (first | refine thru ?_ | refine out_blk ?_ | refine pass (by decide) ?_)) | ((first | refine post1 ?_ | refine post2 ?_ | refine post3 ?_); simp only [GA, simprocAttr]) | refine post0 ?_
     refine ⟨klt, (), (by simp only [Am.keep, List.map_cons, List.map_nil, GA, simprocAttr]; try rfl), fun i hi => ?_⟩
     by_cases e : i = j
     ·subst e; exact ⟨c1, hd⟩
     ·exact hall i (by omega)
 ·obtain rfl : k = l.length := by omega
  have klt' : ¬ (l.length : Int) < l.length := by omega
  repeat' first | (with_reducible first | refine k_seq ?_ | refine k_skip ?_ | refine k_blkS ?_ | refine k_blkR ?_ | refine k_blkC ?_ | refine k_blkH ?_ | refine k_blkB ?_ | refine k_blkK ?_ | refine k_blkE ?_ | refine k_reg ?_) | with_reducible refine r_done ?_ | with_reducible refine s_go (by simp (disch := omega) only [klt', RG11, EVA, plug, eq_self, simprocAttr]; with_reducible rfl) ?_ | ((with_reducible refine chk_r ?_); refine r_callF (by simp only [CA, simprocAttr]; rfl) (by exact rfl) (by simp only [CA, simprocAttr]; rfl) rfl ?_) | (with_reducible refine k_condP (by simp only [GA, simprocAttr]; rfl) (by first | (simp only [BO]; rfl) | rfl) (fun ht => ?_) (fun ht => ?_) <;> try (first | exact False.elim ht | exact absurd rfl ht | exact absurd trivial ht | exact Bool.noConfusion ht)) | (with_reducible refine k_ret ?_; repeat with_reducible (first | refine ret_thru ?_ | refine ret_blk ?_ | refine fin ?_)) | (with_reducible refine k_exit ?_; repeat with_reducible (first | refine thru ?_ | refine out_blk ?_ | refine pass (by decide) ?_)) | ((first | refine post1 ?_ | refine post2 ?_ | refine post3 ?_); simp only [GA, simprocAttr]) | refine post0 ?_
  refine ends_eq (b_eq ?_); rw [Bool.eq_iff_iff]
  rw [hdsOk_iff]
  simp only [decide_eq_true_eq]
  exact ⟨fun q => by omega, fun q => ⟨by omega, fun j hj => (hall j hj).1, fun j hj => (hall j hj).2⟩⟩
end Go.Proofs.YtjaihaccehaicaaDoor
