/- What the proof of the law needs: the abstract machine, the functions as it reads them, their contracts, part 9. -/
import Derived.Test.YtjaihaccehaicaaDoorZh
import Derived.Test.YtjaihaccehaicaaDoorRows
import Derived.Test.YtjaihaccehaicaaDoorTie
import Derived.LaidLaws
import Derived.Handed
import Derived.ProofKit
set_option linter.unusedVariables false
set_option linter.unusedSimpArgs false
namespace Go.Proofs.YtjaihaccehaicaaDoor
open Go Go.Am Go.Proofs
def gWM (x : Hd) (d : Nat → Int) (n : Int) (k j : Nat) : Int := if j < k then IntKind.i64.wrap (x.M j + IntKind.i64.wrap (n * d j)) else x.M j
def gW (x : Hd) (d : Nat → Int) (n : Int) (k : Nat) : Hd := ⟨x.n, gWM x d n k⟩
theorem eH_get (x : Hd) {k : Nat} (h : k < 5) : (eH x)[1 + k]? = some (.i .i64 (x.M k)) := by
 rcases k with _ | _ | _ | _ | _ | k <;> first | rfl | omega
theorem gW_at (x : Hd) (d : Nat → Int) (n : Int) (k : Nat) : (gW x d n k).M k = x.M k := if_neg (by omega)
theorem gW_set {x : Hd} {d : Nat → Int} {n : Int} {k : Nat} (h : k < 5) : (eH (gW x d n k)).set (1 + k) (.i .i64 (IntKind.i64.wrap (x.M k + IntKind.i64.wrap (n * d k)))) = eH (gW x d n (k + 1)) := by
 rcases k with _ | _ | _ | _ | _ | k <;> first | rfl | omega
theorem gW_zero (x : Hd) (d : Nat → Int) (n : Int) : eH (gW x d n 0) = eH x := rfl
def grdK (l : List Sz) (d : Nat → Int) (n : Int) (k : Nat) : List Sz := (l.take k).map fun s => (grd s d n).1
def grwK (m : List Hd) (d : Nat → Int) (n : Int) (k : Nat) : List Hd := (m.take k).map fun x => gW x d n 5
theorem grdK_len {l : List Sz} {d : Nat → Int} {n : Int} {k : Nat} (h : k ≤ l.length) : (grdK l d n k).length = k := by simp [grdK, h]
theorem grwK_len {m : List Hd} {d : Nat → Int} {n : Int} {k : Nat} (h : k ≤ m.length) : (grwK m d n k).length = k := by simp [grwK, h]
theorem grdK_succ {l : List Sz} {d : Nat → Int} {n : Int} {k : Nat} (h : k < l.length) : grdK l d n (k + 1) = grdK l d n k ++ [(grd (zD l k) d n).1] := by
 unfold grdK zD
 rw [List.take_add_one, List.getElem?_eq_getElem h, List.map_append, List.getD_eq_getElem?_getD, List.getElem?_eq_getElem h]
 rfl
theorem grwK_succ {m : List Hd} {d : Nat → Int} {n : Int} {k : Nat} (h : k < m.length) : grwK m d n (k + 1) = grwK m d n k ++ [gW (hD m k) d n 5] := by
 unfold grwK hD
 rw [List.take_add_one, List.getElem?_eq_getElem h, List.map_append, List.getD_eq_getElem?_getD, List.getElem?_eq_getElem h]
 rfl
theorem grdK_at {l : List Sz} {d : Nat → Int} {n : Int} {j : Nat} (h : j < l.length) : zD (grdK l d n l.length) j = (grd (zD l j) d n).1 := by
 unfold grdK zD
 rw [List.take_length, List.getD_eq_getElem?_getD, List.getElem?_map, List.getD_eq_getElem?_getD, List.getElem?_eq_getElem h]
 rfl
theorem grwK_at {m : List Hd} {d : Nat → Int} {n : Int} {j : Nat} (h : j < m.length) : hD (grwK m d n m.length) j = gW (hD m j) d n 5 := by
 unfold grwK hD
 rw [List.take_length, List.getD_eq_getElem?_getD, List.getElem?_map, List.getD_eq_getElem?_getD, List.getElem?_eq_getElem h]
 rfl
theorem grd_ok {s : Sz} {d : Nat → Int} {m : Int} (h : (grd s d m).2 = 0) : szOk s = true ∧ argOk d m 5 = true ∧ szOk (gZ s d m 5 5) = true ∧ grd s d m = (gZ s d m 5 5, 0) := by
 unfold grd at h ⊢
 split at h
 ·cases h
 ·split at h
  ·cases h
  ·split at h
   ·cases h
   ·rename_i h1 h2 h3
    rw [if_neg h1, if_neg h2, if_neg h3]
    simp only [Bool.not_eq_false] at h1 h2 h3
    exact ⟨h1, h2, h3, rfl⟩
theorem grown_fit {s : Sz} {x : Hd} {d : Nat → Int} {n : Int} (ha : argOk d n 5 = true) (hx : hdOk x = true) : fitB (gZ s d n 5 5) (gW x d n 5) = fitB s x := by
 have hx := hdOk_iff.1 hx
 have hd := argOk_iff.1 ha
 have e (j : Nat) (hj : j < 5) : nd (gZ s d n 5 5) (gW x d n 5) j = nd s x j := by
  have b := nd_bd hd.1 (hd.2 j hj)
  have c := hx.2 j hj
  have w1 : IntKind.i64.wrap (n * d j) = n * d j := wrap64 (by omega) (by omega)
  have w : IntKind.i64.wrap (x.M j + n * d j) = x.M j + n * d j := wrap64 (by omega) (by omega)
  show max (max (gF n d s.F 5 j - gWM x d n 5 j) (gWM x d n 5 j - gF n d s.T 5 j)) 0 = _
  unfold gF gWM nd
  rw [if_pos hj, if_pos hj, if_pos hj, w1, w]
  omega
 have n1 : nS (gZ s d n 5 5) (gW x d n 5) 5 = nS s x 5 := by
  simp only [nS, e 0 (by omega), e 1 (by omega), e 2 (by omega), e 3 (by omega), e 4 (by omega)]
 rw [Bool.eq_iff_iff, fitB_iff, fitB_iff, n1]
 refine and_congr (forall_congr' fun j => forall_congr' fun hj => ?_) Iff.rfl
 rw [e j hj]
 exact Iff.rfl
theorem cvN_congr {p q : List Int → Bool} {N : Nat} (h : ∀ P, P < N → p (bts P) = q (bts P)) : ∀ {k : Nat}, k ≤ N → cvN p k = cvN q k
 | 0, _ => rfl
 | k + 1, hk => by
   rw [cvN, cvN, cvN_congr h (by omega)]
   unfold cvF
   rw [h k (by omega)]
theorem graded_eq {l : List Sz} {m : List Hd} {d : Nat → Int} {n : Int} (l0 : l.length ≠ 0) (c : chk l m = 0) (hg : ∀ j, j < l.length → (grd (zD l j) d n).2 = 0) (hG : hdsOk (grwK m d n m.length) = true) :
 cvrR (grdK l d n l.length) (grwK m d n m.length) = cvrR l m := by
 have L := szsOk_iff.1 (chk_ok c).1
 have M := hdsOk_iff.1 (chk_ok c).2
 have lg := grdK_len (l := l) (d := d) (n := n) (Nat.le_refl _)
 have lw := grwK_len (m := m) (d := d) (n := n) (Nat.le_refl _)
 have gz : ∀ j, j < l.length → zD (grdK l d n l.length) j = gZ (zD l j) d n 5 5 := fun j hj => by rw [grdK_at hj, (grd_ok (hg j hj)).2.2.2]
 have ha := (grd_ok (hg 0 (by omega))).2.1
 have hs : szsOk (grdK l d n l.length) = true := by
  rw [szsOk_iff, lg]
  refine ⟨L.1, fun j hj => by rw [gz j hj]; exact (grd_ok (hg j hj)).2.2.1, fun j hj i hi => ?_⟩
  unfold zN
  rw [gz j hj, gz i (by omega)]
  have := L.2.2 j hj i hi
  unfold zN at this
  show ¬ (zD l i).c + n = (zD l j).c + n
  omega
 have ck : chk (grdK l d n l.length) (grwK m d n m.length) = 0 := by unfold chk; rw [hs, hG]; rfl
 have cv : ∀ P, P < 2 ^ l.length → cvsB (grdK l d n l.length) (grwK m d n m.length) (bts P) = cvsB l m (bts P) := fun P hP => by
  have b := bts_in hP
  rw [Bool.eq_iff_iff, cvs_iff, cvs_iff, lw]
  refine forall_congr' fun k => forall_congr' fun hk => ?_
  have e : ∀ i ∈ bts P, fitB (zD (grdK l d n l.length) i.toNat) (hD (grwK m d n m.length) k) = fitB (zD l i.toNat) (hD m k) := fun i hi => by
   have := b i hi
   rw [gz _ (by omega), grwK_at hk, grown_fit ha (M.2.1 k hk)]
  constructor
  ·rintro ⟨i, hi, q⟩; exact ⟨i, hi, by rw [← e i hi]; exact q⟩
  ·rintro ⟨i, hi, q⟩; exact ⟨i, hi, by rw [e i hi]; exact q⟩
 unfold cvrR
 rw [ck, c, lg, cvN_congr cv (Nat.le_refl _)]
theorem RG27 : (type_of% @c27r0.eq_1) ∧ (type_of% @c27r1.eq_1) ∧ (type_of% @c27r2.eq_1) ∧ (type_of% @c27r3.eq_1) ∧ (type_of% @c27r4.eq_1) ∧ (type_of% @c27r5.eq_1) ∧ (type_of% @c27r6.eq_1) ∧ (type_of% @c27r7.eq_1) ∧ (type_of% @c27r8.eq_1) ∧ (type_of% @c27r9.eq_1) ∧ (type_of% @c27r11.eq_1) ∧ (type_of% @c27r12.eq_1) ∧ (type_of% @c27r13.eq_1) ∧ (type_of% @c27r14.eq_1) ∧ (type_of% @c27r15.eq_1) ∧ (type_of% @c27r16.eq_1) ∧ (type_of% @c27r17.eq_1) ∧ (type_of% @c27r18.eq_1) ∧ (type_of% @c27r19.eq_1) ∧ (type_of% @c27r21.eq_1) ∧ (type_of% @c27r22.eq_1) ∧ (type_of% @c27r24.eq_1) ∧ (type_of% @c27r25.eq_1) ∧ (type_of% @c27r26.eq_1) ∧ (type_of% @c27r27.eq_1) ∧ (type_of% @c27r28.eq_1) ∧ (type_of% @c27r29.eq_1) ∧ (type_of% @c27r30.eq_1) ∧ (type_of% @c27r31.eq_1) ∧ (type_of% @c27r32.eq_1) ∧ (type_of% @c27r33.eq_1) ∧ (type_of% @c27r34.eq_1) ∧ (type_of% @c27r36.eq_1) := ⟨@c27r0.eq_1, @c27r1.eq_1, @c27r2.eq_1, @c27r3.eq_1, @c27r4.eq_1, @c27r5.eq_1, @c27r6.eq_1, @c27r7.eq_1, @c27r8.eq_1, @c27r9.eq_1, @c27r11.eq_1, @c27r12.eq_1, @c27r13.eq_1, @c27r14.eq_1, @c27r15.eq_1, @c27r16.eq_1, @c27r17.eq_1, @c27r18.eq_1, @c27r19.eq_1, @c27r21.eq_1, @c27r22.eq_1, @c27r24.eq_1, @c27r25.eq_1, @c27r26.eq_1, @c27r27.eq_1, @c27r28.eq_1, @c27r29.eq_1, @c27r30.eq_1, @c27r31.eq_1, @c27r32.eq_1, @c27r33.eq_1, @c27r34.eq_1, @c27r36.eq_1⟩
set_option maxHeartbeats 2000000 in
theorem d27 (l : List Sz) (m : List Hd) (d : Nat → Int) (n : Int) (h0 : (cvrR l m).2 = 0) : PC Tryd.prog 27 [vZ l, vH m, .ag (e5 d), .i .i64 n, vi (cvrR l m).1] (.b true) := by
 obtain ⟨c, n12, LL⟩ := cvr_ok h0
 have L := szsOk_iff.1 (chk_ok c).1
 have M := hdsOk_iff.1 (chk_ok c).2
 have bl := cvrR_len l m
 refine pc_fn fn27 (by simp only [AV.plains, AV.plain, il_plain, bl_plain, Bool.and_true, Bool.true_and, Bool.and_self, fleZ_plain, fleH_plain, il_plain]) (by simp only [AV.plains, AV.plain, il_plain, bl_plain, Bool.and_true, Bool.true_and, Bool.and_self, fleZ_plain, fleH_plain, il_plain]) (Nat.le_of_ble_eq_true rfl) ?_
 rw [initSt5]
 repeat' first | (with_reducible first | refine kzq ?_ | refine kzs ?_ | refine kzS ?_ | refine kzR ?_ | refine kzC ?_ | refine kzH ?_ | refine kzB ?_ | refine kzK ?_ | refine kzE ?_ | refine kzg ?_) | with_reducible refine k_head (by with_unfolding_all rfl) ?_ | with_reducible refine k_headS ?_ | (with_reducible refine SepK.mk ?_ ?_; (refine sepQ_P ?_; simp [sepQ, sepG, AOp.late, AOp.free, AOp.xs, AOp.isAl, tokNe, AV.tok, stS_get, strip, AX.val, RG27, GA]; try omega)) | with_reducible refine r_done ?_ | with_reducible refine hr_done ?_ | with_reducible refine s_go (by simp (disch := omega) only [RG27, EVA, plug, eq_self, simprocAttr]; with_reducible rfl) ?_ | with_reducible refine h_go (by with_unfolding_all rfl) (by simp (disch := omega) only [RG27, EVA, plug, eq_self, simprocAttr]; with_reducible rfl) ?_ | ((with_reducible refine kzr ?_); refine zrF ?_) | ((with_reducible refine kzh ?_); refine zhF ?_) | ((with_reducible refine kzh ?_); refine hr_app (by simp (disch := omega) only [RG27, EVA, plug, eq_self, simprocAttr]; with_reducible rfl) rfl ?_) | (with_reducible refine zkP (fun ht => ?_) (fun ht => ?_) <;> try first | exact False.elim ht | exact absurd rfl ht | exact absurd trivial ht | exact Bool.noConfusion ht) | (with_reducible (refine k_ret ?_; repeat first | refine kzt ?_ | refine kzb ?_ | refine fin ?_)) | (with_reducible (refine kzx ?_; repeat first | refine thru ?_ | refine kzo ?_ | refine pass (by decide) ?_)) | ((first | refine post1 ?_ | refine post2 ?_ | refine post3 ?_); simp only [GA, simprocAttr]) | refine post0 ?_
 refine w_virt 17 11 rfl ?_
 refine k_blk (k_loopS (X := Nat) [0, 1, 3, 4, 7, 11, 23, 24, 25] l.length (fun k y => [(0, vZ l), (1, vH m), (3, .i .i64 n), (4, vi (cvrR l m).1), (7, .p 1 0), (11, .sl y 0 k 17), (23, vZ l), (24, .i .i64 l.length), (25, .i .i64 (k : Int))])
  (fun k y h => y ≠ 0 ∧ y ≠ 1 ∧ h.m y = some (.cells true (fl eZ (grdK l d n k))) ∧ h.m 1 = some (.cells true (e5 d)) ∧ ∀ j, j < k → (grd (zD l j) d n).2 = 0) _ (by simp only [Am.keep, ZK, simprocAttr]; try rfl) ⟨?_, ?_, by simp (disch := omega) only [RG27, EVA, plug, eq_self, simprocAttr] <;> rfl, by simp (disch := omega) only [RG27, EVA, plug, eq_self, simprocAttr] <;> rfl, fun j hj => by omega⟩ ?_)
 ·simp only [AH.bump_nx]; omega
 ·simp only [AH.bump_nx, AH.set_nx, H1_nx]; omega
 rintro k y h hk ⟨hy, hy1, hmy, hm1, hg⟩ ok pos
 have ly := ok.m hmy
 have l1 := ok.m hm1
 by_cases klt : k < l.length
 ·have klt' : (k : Int) < l.length := by omega
  have rT := rdZ klt
  have q := pc19 (zD l k) d n
  have gs := grdK_succ (d := d) (n := n) klt
  have gl := fl_len eZ_len (grdK l d n k)
  rw [grdK_len (by omega)] at gl
  have y2 : ¬ y = h.nx + 1 + 2 := by omega
  have y2' : ¬ h.nx + 1 + 2 = y := by omega
  have y7 : ¬ y = h.nx + 1 + 4 + 7 := by omega
  have y7' : ¬ h.nx + 1 + 4 + 7 = y := by omega
  have o2 : ¬ 1 = h.nx + 1 + 2 := by omega
  have o7 : ¬ 1 = h.nx + 1 + 4 + 7 := by omega
  have y1 : ¬ 1 = y := fun e => hy1 e.symm
  by_cases e0 : (grd (zD l k) d n).2 = 0
  ·rw [e0] at q
   have hg' : ∀ j, j < k + 1 → (grd (zD l j) d n).2 = 0 := fun j hj => by
    by_cases e : j = k
    ·subst e; exact e0
    ·exact hg j (by omega)
   generalize (grd (zD l k) d n).1 = g at *
   repeat' first | (with_reducible first | refine kzq ?_ | refine kzs ?_ | refine kzS ?_ | refine kzR ?_ | refine kzC ?_ | refine kzH ?_ | refine kzB ?_ | refine kzK ?_ | refine kzE ?_ | refine kzg ?_) | with_reducible refine k_head (by with_unfolding_all rfl) ?_ | with_reducible refine k_headS ?_ | (with_reducible refine SepK.mk ?_ ?_; (refine sepQ_P ?_; simp [sepQ, sepG, AOp.late, AOp.free, AOp.xs, AOp.isAl, tokNe, AV.tok, stS_get, strip, AX.val, RG27, GA]; try omega)) | with_reducible refine r_done ?_ | with_reducible refine hr_done ?_ | with_reducible refine s_go (by simp (disch := omega) only [klt', rT, eZ_rd, e5_rd, hm1, row_m hm1, read_row (row_m hm1), hmy, row_m hmy, hy, gl, y2, y2', y7, y7', o2, o7, y1, RG27, EVA, plug, eq_self, simprocAttr]; with_reducible rfl) ?_ | with_reducible refine h_go (by with_unfolding_all rfl) (by simp (disch := omega) only [klt', rT, eZ_rd, e5_rd, hm1, row_m hm1, read_row (row_m hm1), hmy, row_m hmy, hy, gl, y2, y2', y7, y7', o2, o7, y1, RG27, EVA, plug, eq_self, simprocAttr]; with_reducible rfl) ?_ | ((with_reducible refine kzr ?_); refine zrF ?_) | ((with_reducible refine kzh ?_); refine zhF ?_) | ((with_reducible refine kzr ?_); refine zrP (c := by first | exact q _) (k := ?_)) | ((with_reducible refine kzh ?_); refine zhP (c := by first | exact q _) (k := ?_)) | ((with_reducible refine kzh ?_); refine zhQ (c := by first | exact q _) (k := ?_)) | ((with_reducible refine kzh ?_); refine hr_app (by simp (disch := omega) only [klt', rT, eZ_rd, e5_rd, hm1, row_m hm1, read_row (row_m hm1), hmy, row_m hmy, hy, gl, y2, y2', y7, y7', o2, o7, y1, RG27, EVA, plug, eq_self, simprocAttr]; with_reducible rfl) rfl ?_) | (with_reducible refine zkP (fun ht => ?_) (fun ht => ?_) <;> try first | exact False.elim ht | exact absurd rfl ht | exact absurd trivial ht | exact Bool.noConfusion ht) | (with_reducible (refine k_ret ?_; repeat first | refine kzt ?_ | refine kzb ?_ | refine fin ?_)) | (with_reducible (refine kzx ?_; repeat first | refine thru ?_ | refine kzo ?_ | refine pass (by decide) ?_)) | ((first | refine post1 ?_ | refine post2 ?_ | refine post3 ?_); simp only [GA, simprocAttr]) | refine post0 ?_
   refine ⟨klt, _, (by simp only [Am.keep, ZK, simprocAttr]; try rfl), ?_, ?_, ?_, by simp (disch := omega) only [hm1, o2, o7, y1, RG27, EVA, plug, eq_self, simprocAttr], hg'⟩
   ·first | omega | (simp only [AH.bump_nx, AH.set_nx, AH.kill_nx]; omega)
   ·first | omega | (simp only [AH.bump_nx, AH.set_nx, AH.kill_nx]; omega)
   ·rw [gs, ← fl_snoc]
    simp (disch := omega) only [RG27, EVA, plug, eq_self, simprocAttr] <;> rfl
  ·have e0' := eq_false e0
   generalize (grd (zD l k) d n).1 = g at *
   generalize (grd (zD l k) d n).2 = er at *
   repeat' first | (with_reducible first | refine kzq ?_ | refine kzs ?_ | refine kzS ?_ | refine kzR ?_ | refine kzC ?_ | refine kzH ?_ | refine kzB ?_ | refine kzK ?_ | refine kzE ?_ | refine kzg ?_) | with_reducible refine k_head (by with_unfolding_all rfl) ?_ | with_reducible refine k_headS ?_ | (with_reducible refine SepK.mk ?_ ?_; (refine sepQ_P ?_; simp [sepQ, sepG, AOp.late, AOp.free, AOp.xs, AOp.isAl, tokNe, AV.tok, stS_get, strip, AX.val, RG27, GA]; try omega)) | with_reducible refine r_done ?_ | with_reducible refine hr_done ?_ | with_reducible refine s_go (by simp (disch := omega) only [klt', rT, eZ_rd, e5_rd, hm1, row_m hm1, read_row (row_m hm1), e0', y2, y2', y7, y7', o2, o7, y1, RG27, EVA, plug, eq_self, simprocAttr]; with_reducible rfl) ?_ | with_reducible refine h_go (by with_unfolding_all rfl) (by simp (disch := omega) only [klt', rT, eZ_rd, e5_rd, hm1, row_m hm1, read_row (row_m hm1), e0', y2, y2', y7, y7', o2, o7, y1, RG27, EVA, plug, eq_self, simprocAttr]; with_reducible rfl) ?_ | ((with_reducible refine kzr ?_); refine zrF ?_) | ((with_reducible refine kzh ?_); refine zhF ?_) | ((with_reducible refine kzr ?_); refine zrP (c := by first | exact q _) (k := ?_)) | ((with_reducible refine kzh ?_); refine zhP (c := by first | exact q _) (k := ?_)) | ((with_reducible refine kzh ?_); refine zhQ (c := by first | exact q _) (k := ?_)) | ((with_reducible refine kzh ?_); refine hr_app (by simp (disch := omega) only [klt', rT, eZ_rd, e5_rd, hm1, row_m hm1, read_row (row_m hm1), e0', y2, y2', y7, y7', o2, o7, y1, RG27, EVA, plug, eq_self, simprocAttr]; with_reducible rfl) rfl ?_) | (with_reducible refine zkP (fun ht => ?_) (fun ht => ?_) <;> try first | exact False.elim ht | exact absurd rfl ht | exact absurd trivial ht | exact Bool.noConfusion ht) | (with_reducible (refine k_ret ?_; repeat first | refine kzt ?_ | refine kzb ?_ | refine fin ?_)) | (with_reducible (refine kzx ?_; repeat first | refine thru ?_ | refine kzo ?_ | refine pass (by decide) ?_)) | ((first | refine post1 ?_ | refine post2 ?_ | refine post3 ?_); simp only [GA, simprocAttr]) | refine post0 ?_
   all_goals first | exact ends_of | exact ends_eq rfl
 ·obtain rfl : k = l.length := by omega
  have klt' : ¬ (l.length : Int) < l.length := by omega
  repeat' first | (with_reducible first | refine kzq ?_ | refine kzs ?_ | refine kzS ?_ | refine kzR ?_ | refine kzC ?_ | refine kzH ?_ | refine kzB ?_ | refine kzK ?_ | refine kzE ?_ | refine kzg ?_) | with_reducible refine k_head (by with_unfolding_all rfl) ?_ | with_reducible refine k_headS ?_ | (with_reducible refine SepK.mk ?_ ?_; (refine sepQ_P ?_; simp [sepQ, sepG, AOp.late, AOp.free, AOp.xs, AOp.isAl, tokNe, AV.tok, stS_get, strip, AX.val, RG27, GA]; try omega)) | with_reducible refine r_done ?_ | with_reducible refine hr_done ?_ | with_reducible refine s_go (by simp (disch := omega) only [klt', RG27, EVA, plug, eq_self, simprocAttr]; with_reducible rfl) ?_ | with_reducible refine h_go (by with_unfolding_all rfl) (by simp (disch := omega) only [klt', RG27, EVA, plug, eq_self, simprocAttr]; with_reducible rfl) ?_ | ((with_reducible refine kzr ?_); refine zrF ?_) | ((with_reducible refine kzh ?_); refine zhF ?_) | ((with_reducible refine kzh ?_); refine hr_app (by simp (disch := omega) only [klt', RG27, EVA, plug, eq_self, simprocAttr]; with_reducible rfl) rfl ?_) | (with_reducible refine zkP (fun ht => ?_) (fun ht => ?_) <;> try first | exact False.elim ht | exact absurd rfl ht | exact absurd trivial ht | exact Bool.noConfusion ht) | (with_reducible (refine k_ret ?_; repeat first | refine kzt ?_ | refine kzb ?_ | refine fin ?_)) | (with_reducible (refine kzx ?_; repeat first | refine thru ?_ | refine kzo ?_ | refine pass (by decide) ?_)) | ((first | refine post1 ?_ | refine post2 ?_ | refine post3 ?_); simp only [GA, simprocAttr]) | refine post0 ?_
  refine w_virt 6 16 rfl ?_
  have z0 : ¬ y = h.nx + 1 + 1 + 3 := by omega
  refine k_blk (k_loopS (X := Nat) [0, 3, 4, 7, 11, 16, 43, 44, 45] m.length (fun k z => [(0, vZ l), (3, .i .i64 n), (4, vi (cvrR l m).1), (7, .p 1 0), (11, .sl y 0 l.length 17), (16, .sl z 0 k 6), (43, vH m), (44, .i .i64 m.length), (45, .i .i64 (k : Int))])
   (fun k z h => z ≠ 0 ∧ z ≠ 1 ∧ z ≠ y ∧ h.m z = some (.cells true (fl eH (grwK m d n k))) ∧ h.m y = some (.cells true (fl eZ (grdK l d n l.length))) ∧ h.m 1 = some (.cells true (e5 d))) _ (by simp only [Am.keep, ZK, simprocAttr]; try rfl) ⟨?_, ?_, ?_, by simp (disch := omega) only [RG27, EVA, plug, eq_self, simprocAttr] <;> rfl, ?_, ?_⟩ ?_)
  ·simp only [AH.bump_nx]; omega
  ·simp only [AH.bump_nx]; omega
  ·simp only [AH.bump_nx]; omega
  ·simp (disch := omega) only [hmy, RG27, EVA, plug, eq_self, simprocAttr] <;> rfl
  ·simp (disch := omega) only [hm1, RG27, EVA, plug, eq_self, simprocAttr] <;> rfl
  rintro k z h hk ⟨hz, hz1, hzy, hmz, hmy, hm1⟩ ok pos
  have ly := ok.m hmy
  have l1 := ok.m hm1
  have lz := ok.m hmz
  by_cases klt : k < m.length
  ·have klt' : (k : Int) < m.length := by omega
   have rJ := rdH klt
   have gs := grwK_succ (d := d) (n := n) klt
   have gl := fl_len eH_len (grwK m d n k)
   rw [grwK_len (by omega)] at gl
   have f1 : ¬ y = h.nx + 1 + 2 := by omega
   have f2 : ¬ z = h.nx + 1 + 2 := by omega
   have f3 : ¬ 1 = h.nx + 1 + 2 := by omega
   have f4 : ¬ h.nx + 1 + 2 = y := by omega
   have f5 : ¬ h.nx + 1 + 2 = z := by omega
   have f6 : ¬ h.nx + 1 + 2 = 1 := by omega
   have f7 : ¬ y = z := fun e => hzy e.symm
   have f8 : ¬ 1 = z := fun e => hz1 e.symm
   have f0 : ¬ h.nx + 1 + 2 = 0 := by omega
   repeat' first | (with_reducible first | refine kzq ?_ | refine kzs ?_ | refine kzS ?_ | refine kzR ?_ | refine kzC ?_ | refine kzH ?_ | refine kzB ?_ | refine kzK ?_ | refine kzE ?_ | refine kzg ?_) | with_reducible refine k_head (by with_unfolding_all rfl) ?_ | with_reducible refine k_headS ?_ | (with_reducible refine SepK.mk ?_ ?_; (refine sepQ_P ?_; simp [sepQ, sepG, AOp.late, AOp.free, AOp.xs, AOp.isAl, tokNe, AV.tok, stS_get, strip, AX.val, RG27, GA]; try omega)) | with_reducible refine r_done ?_ | with_reducible refine hr_done ?_ | with_reducible refine s_go (by simp (disch := omega) only [klt', rJ, f1, f2, f3, f4, f5, f6, RG27, EVA, plug, eq_self, simprocAttr]; with_reducible rfl) ?_ | with_reducible refine h_go (by with_unfolding_all rfl) (by simp (disch := omega) only [klt', rJ, f1, f2, f3, f4, f5, f6, RG27, EVA, plug, eq_self, simprocAttr]; with_reducible rfl) ?_ | ((with_reducible refine kzr ?_); refine zrF ?_) | ((with_reducible refine kzh ?_); refine zhF ?_) | ((with_reducible refine kzh ?_); refine hr_app (by simp (disch := omega) only [klt', rJ, f1, f2, f3, f4, f5, f6, RG27, EVA, plug, eq_self, simprocAttr]; with_reducible rfl) rfl ?_) | (with_reducible refine zkP (fun ht => ?_) (fun ht => ?_) <;> try first | exact False.elim ht | exact absurd rfl ht | exact absurd trivial ht | exact Bool.noConfusion ht) | (with_reducible (refine k_ret ?_; repeat first | refine kzt ?_ | refine kzb ?_ | refine fin ?_)) | (with_reducible (refine kzx ?_; repeat first | refine thru ?_ | refine kzo ?_ | refine pass (by decide) ?_)) | ((first | refine post1 ?_ | refine post2 ?_ | refine post3 ?_); simp only [GA, simprocAttr]) | refine post0 ?_
   refine k_blk (k_loopS (X := Unit) [0, 3, 4, 7, 11, 16, 18, 43, 44, 45, 49] 5 (fun i _ => [(0, vZ l), (3, .i .i64 n), (4, vi (cvrR l m).1), (7, .p 1 0), (11, .sl y 0 l.length 17), (16, .sl z 0 k 6), (18, .p (h.nx + 1 + 2) 0), (43, vH m), (44, .i .i64 m.length), (45, .i .i64 (k : Int)), (49, .i .i64 (i : Int))])
    (fun i _ h' => h.nx + 1 + 2 < h'.nx ∧ h'.m (h.nx + 1 + 2) = some (.cells true (eH (gW (hD m k) d n i))) ∧ h'.m z = some (.cells true (fl eH (grwK m d n k))) ∧ h'.m y = some (.cells true (fl eZ (grdK l d n l.length))) ∧ h'.m 1 = some (.cells true (e5 d))) () (by simp only [Am.keep, ZK, simprocAttr]; try rfl) ⟨?_, ?_, ?_, ?_, ?_⟩ ?_)
   ·simp only [AH.bump_nx, AH.set_nx]; omega
   ·rw [gW_zero]; simp (disch := omega) only [RG27, EVA, plug, eq_self, simprocAttr] <;> rfl
   ·simp (disch := omega) only [hmz, f2, f5, RG27, EVA, plug, eq_self, simprocAttr] <;> rfl
   ·simp (disch := omega) only [hmy, f1, f4, RG27, EVA, plug, eq_self, simprocAttr] <;> rfl
   ·simp (disch := omega) only [hm1, f3, f6, RG27, EVA, plug, eq_self, simprocAttr] <;> rfl
   have hT0 : ¬ h.nx + 1 + 2 = 0 := by omega
   generalize h.nx + 1 + 2 = T at *
   clear ok pos
   rintro i _ h' hi ⟨hT, hmT, hmz, hmy, hm1⟩ ok pos
   have ly := ok.m hmy
   have l1 := ok.m hm1
   have lz := ok.m hmz
   by_cases ilt : i < 5
   ·have ilt' : (i : Int) < 5 := by omega
    have g0 : (e5 d)[i]? = some (.i .i64 (d i)) := e5_get ilt
    have g1 := eH_get (gW (hD m k) d n i) ilt
    rw [gW_at] at g1
    have st := gW_set (x := hD m k) (d := d) (n := n) ilt
    repeat' first | (with_reducible first | refine kzq ?_ | refine kzs ?_ | refine kzS ?_ | refine kzR ?_ | refine kzC ?_ | refine kzH ?_ | refine kzB ?_ | refine kzK ?_ | refine kzE ?_ | refine kzg ?_) | with_reducible refine k_head (by with_unfolding_all rfl) ?_ | with_reducible refine k_headS ?_ | (with_reducible refine SepK.mk ?_ ?_; (refine sepQ_P ?_; simp [sepQ, sepG, AOp.late, AOp.free, AOp.xs, AOp.isAl, tokNe, AV.tok, stS_get, strip, AX.val, RG27, GA]; try omega)) | with_reducible refine r_done ?_ | with_reducible refine hr_done ?_ | with_reducible refine s_go (by simp (disch := omega) only [ilt', g0, g1, st, eH_len, hm1, row_m hm1, read_row (row_m hm1), hmT, row_m hmT, read_row (row_m hmT), RG27, EVA, plug, eq_self, simprocAttr]; with_reducible rfl) ?_ | with_reducible refine h_go (by with_unfolding_all rfl) (by simp (disch := omega) only [ilt', g0, g1, st, eH_len, hm1, row_m hm1, read_row (row_m hm1), hmT, row_m hmT, read_row (row_m hmT), RG27, EVA, plug, eq_self, simprocAttr]; with_reducible rfl) ?_ | ((with_reducible refine kzr ?_); refine zrF ?_) | ((with_reducible refine kzh ?_); refine zhF ?_) | ((with_reducible refine kzh ?_); refine hr_app (by simp (disch := omega) only [ilt', g0, g1, st, eH_len, hm1, row_m hm1, read_row (row_m hm1), hmT, row_m hmT, read_row (row_m hmT), RG27, EVA, plug, eq_self, simprocAttr]; with_reducible rfl) rfl ?_) | (with_reducible refine zkP (fun ht => ?_) (fun ht => ?_) <;> try first | exact False.elim ht | exact absurd rfl ht | exact absurd trivial ht | exact Bool.noConfusion ht) | (with_reducible (refine k_ret ?_; repeat first | refine kzt ?_ | refine kzb ?_ | refine fin ?_)) | (with_reducible (refine kzx ?_; repeat first | refine thru ?_ | refine kzo ?_ | refine pass (by decide) ?_)) | ((first | refine post1 ?_ | refine post2 ?_ | refine post3 ?_); simp only [GA, simprocAttr]) | refine post0 ?_
    refine ⟨ilt, (), (by simp only [Am.keep, ZK, simprocAttr]; try rfl), ?_, by simp (disch := omega) only [st, RG27, EVA, plug, eq_self, simprocAttr] <;> rfl, by simp (disch := omega) only [hmz, f5, f2, RG27, EVA, plug, eq_self, simprocAttr] <;> rfl, by simp (disch := omega) only [hmy, f1, f4, RG27, EVA, plug, eq_self, simprocAttr] <;> rfl, by simp (disch := omega) only [hm1, f3, f6, RG27, EVA, plug, eq_self, simprocAttr] <;> rfl⟩
    simp only [AH.bump_nx, AH.set_nx]; omega
   ·obtain rfl : i = 5 := by omega
    have ilt' : ¬ ((5 : Nat) : Int) < 5 := by omega
    repeat' first | (with_reducible first | refine kzq ?_ | refine kzs ?_ | refine kzS ?_ | refine kzR ?_ | refine kzC ?_ | refine kzH ?_ | refine kzB ?_ | refine kzK ?_ | refine kzE ?_ | refine kzg ?_) | with_reducible refine k_head (by with_unfolding_all rfl) ?_ | with_reducible refine k_headS ?_ | (with_reducible refine SepK.mk ?_ ?_; (refine sepQ_P ?_; simp [sepQ, sepG, AOp.late, AOp.free, AOp.xs, AOp.isAl, tokNe, AV.tok, stS_get, strip, AX.val, RG27, GA]; try omega)) | with_reducible refine r_done ?_ | with_reducible refine hr_done ?_ | with_reducible refine s_go (by simp (disch := omega) only [ilt', eH_rd, hmT, row_m hmT, read_row (row_m hmT), hmz, row_m hmz, hz, gl, RG27, EVA, plug, eq_self, simprocAttr]; with_reducible rfl) ?_ | with_reducible refine h_go (by with_unfolding_all rfl) (by simp (disch := omega) only [ilt', eH_rd, hmT, row_m hmT, read_row (row_m hmT), hmz, row_m hmz, hz, gl, RG27, EVA, plug, eq_self, simprocAttr]; with_reducible rfl) ?_ | ((with_reducible refine kzr ?_); refine zrF ?_) | ((with_reducible refine kzh ?_); refine zhF ?_) | ((with_reducible refine kzh ?_); refine hr_app (by simp (disch := omega) only [ilt', eH_rd, hmT, row_m hmT, read_row (row_m hmT), hmz, row_m hmz, hz, gl, RG27, EVA, plug, eq_self, simprocAttr]; with_reducible rfl) rfl ?_) | (with_reducible refine zkP (fun ht => ?_) (fun ht => ?_) <;> try first | exact False.elim ht | exact absurd rfl ht | exact absurd trivial ht | exact Bool.noConfusion ht) | (with_reducible (refine k_ret ?_; repeat first | refine kzt ?_ | refine kzb ?_ | refine fin ?_)) | (with_reducible (refine kzx ?_; repeat first | refine thru ?_ | refine kzo ?_ | refine pass (by decide) ?_)) | ((first | refine post1 ?_ | refine post2 ?_ | refine post3 ?_); simp only [GA, simprocAttr]) | refine post0 ?_
    refine ⟨klt, _, (by simp only [Am.keep, ZK, simprocAttr]; try rfl), ?_, ?_, ?_, ?_, by simp (disch := omega) only [hmy, f1, f4, f7, RG27, EVA, plug, eq_self, simprocAttr] <;> rfl, by simp (disch := omega) only [hm1, f3, f6, f8, RG27, EVA, plug, eq_self, simprocAttr] <;> rfl⟩
    ·first | omega | (simp only [AH.bump_nx, AH.set_nx, AH.kill_nx]; omega)
    ·first | omega | (simp only [AH.bump_nx, AH.set_nx, AH.kill_nx]; omega)
    ·first | omega | (simp only [AH.bump_nx, AH.set_nx, AH.kill_nx]; omega)
    ·rw [gs, ← fl_snoc]
     simp (disch := omega) only [RG27, EVA, plug, eq_self, simprocAttr] <;> rfl
  ·obtain rfl : k = m.length := by omega
   have klt' : ¬ (m.length : Int) < m.length := by omega
   have q67 : PC Tryd.prog 11 [.vs m.length (fl eH (grwK m d n m.length))] (.b (hdsOk (grwK m d n m.length))) := by
    have q := pc67 (grwK m d n m.length) (by rw [grwK_len (Nat.le_refl _)]; omega)
    unfold vH at q
    rwa [grwK_len (Nat.le_refl _)] at q
   have ge := graded_eq (d := d) (n := n) (l := l) (m := m)
   have pW : AV.plains (fl eH (grwK m d n m.length)) = true := fleH_plain _
   cases cH : hdsOk (grwK m d n m.length) with
   | false =>
     rw [cH] at q67
     generalize grwK m d n m.length = G at *
     repeat' first | (with_reducible first | refine kzq ?_ | refine kzs ?_ | refine kzS ?_ | refine kzR ?_ | refine kzC ?_ | refine kzH ?_ | refine kzB ?_ | refine kzK ?_ | refine kzE ?_ | refine kzg ?_) | with_reducible refine k_head (by with_unfolding_all rfl) ?_ | with_reducible refine k_headS ?_ | (with_reducible refine SepK.mk ?_ ?_; (refine sepQ_P ?_; simp [sepQ, sepG, AOp.late, AOp.free, AOp.xs, AOp.isAl, tokNe, AV.tok, stS_get, strip, AX.val, RG27, GA]; try omega)) | with_reducible refine r_done ?_ | with_reducible refine hr_done ?_ | with_reducible refine s_go (by simp (disch := omega) only [klt', RG27, EVA, plug, eq_self, simprocAttr]; with_reducible rfl) ?_ | with_reducible refine h_go (by with_unfolding_all rfl) (by simp (disch := omega) only [klt', RG27, EVA, plug, eq_self, simprocAttr]; with_reducible rfl) ?_ | ((with_reducible refine kzr ?_); refine zrF ?_) | ((with_reducible refine kzh ?_); refine zhF ?_) | ((with_reducible refine kzr ?_); refine zrP (c := by first | ((refine PC.at q67 rfl ?F; case F => (refine .cons (.row (by simp (disch := omega) only [row_m hmz, RG27, EVA, plug, eq_self, simprocAttr] <;> rfl) pW) .nil)); all_goals fail)) (k := ?_)) | ((with_reducible refine kzh ?_); refine zhP (c := by first | ((refine PC.at q67 rfl ?F; case F => (refine .cons (.row (by simp (disch := omega) only [row_m hmz, RG27, EVA, plug, eq_self, simprocAttr] <;> rfl) pW) .nil)); all_goals fail)) (k := ?_)) | ((with_reducible refine kzh ?_); refine zhQ (c := by first | ((refine PC.at q67 rfl ?F; case F => (refine .cons (.row (by simp (disch := omega) only [row_m hmz, RG27, EVA, plug, eq_self, simprocAttr] <;> rfl) pW) .nil)); all_goals fail)) (k := ?_)) | ((with_reducible refine kzh ?_); refine hr_app (by simp (disch := omega) only [klt', RG27, EVA, plug, eq_self, simprocAttr]; with_reducible rfl) rfl ?_) | (with_reducible refine zkP (fun ht => ?_) (fun ht => ?_) <;> try first | exact False.elim ht | exact absurd rfl ht | exact absurd trivial ht | exact Bool.noConfusion ht) | (with_reducible (refine k_ret ?_; repeat first | refine kzt ?_ | refine kzb ?_ | refine fin ?_)) | (with_reducible (refine kzx ?_; repeat first | refine thru ?_ | refine kzo ?_ | refine pass (by decide) ?_)) | ((first | refine post1 ?_ | refine post2 ?_ | refine post3 ?_); simp only [GA, simprocAttr]) | refine post0 ?_
     all_goals first | exact ends_of | exact ends_eq rfl
   | true =>
     rw [cH] at q67
     by_cases l0 : l.length = 0
     ·have l0' := eq_true (show (l.length : Int) = 0 by omega)
      repeat' first | (with_reducible first | refine kzq ?_ | refine kzs ?_ | refine kzS ?_ | refine kzR ?_ | refine kzC ?_ | refine kzH ?_ | refine kzB ?_ | refine kzK ?_ | refine kzE ?_ | refine kzg ?_) | with_reducible refine k_head (by with_unfolding_all rfl) ?_ | with_reducible refine k_headS ?_ | (with_reducible refine SepK.mk ?_ ?_; (refine sepQ_P ?_; simp [sepQ, sepG, AOp.late, AOp.free, AOp.xs, AOp.isAl, tokNe, AV.tok, stS_get, strip, AX.val, RG27, GA]; try omega)) | with_reducible refine r_done ?_ | with_reducible refine hr_done ?_ | with_reducible refine s_go (by simp (disch := omega) only [klt', l0', RG27, EVA, plug, eq_self, simprocAttr]; with_reducible rfl) ?_ | with_reducible refine h_go (by with_unfolding_all rfl) (by simp (disch := omega) only [klt', l0', RG27, EVA, plug, eq_self, simprocAttr]; with_reducible rfl) ?_ | ((with_reducible refine kzr ?_); refine zrF ?_) | ((with_reducible refine kzh ?_); refine zhF ?_) | ((with_reducible refine kzr ?_); refine zrP (c := by first | ((refine PC.at q67 rfl ?F; case F => (refine .cons (.row (by simp (disch := omega) only [row_m hmz, RG27, EVA, plug, eq_self, simprocAttr] <;> rfl) pW) .nil)); all_goals fail)) (k := ?_)) | ((with_reducible refine kzh ?_); refine zhP (c := by first | ((refine PC.at q67 rfl ?F; case F => (refine .cons (.row (by simp (disch := omega) only [row_m hmz, RG27, EVA, plug, eq_self, simprocAttr] <;> rfl) pW) .nil)); all_goals fail)) (k := ?_)) | ((with_reducible refine kzh ?_); refine zhQ (c := by first | ((refine PC.at q67 rfl ?F; case F => (refine .cons (.row (by simp (disch := omega) only [row_m hmz, RG27, EVA, plug, eq_self, simprocAttr] <;> rfl) pW) .nil)); all_goals fail)) (k := ?_)) | ((with_reducible refine kzh ?_); refine hr_app (by simp (disch := omega) only [klt', l0', RG27, EVA, plug, eq_self, simprocAttr]; with_reducible rfl) rfl ?_) | (with_reducible refine zkP (fun ht => ?_) (fun ht => ?_) <;> try first | exact False.elim ht | exact absurd rfl ht | exact absurd trivial ht | exact Bool.noConfusion ht) | (with_reducible (refine k_ret ?_; repeat first | refine kzt ?_ | refine kzb ?_ | refine fin ?_)) | (with_reducible (refine kzx ?_; repeat first | refine thru ?_ | refine kzo ?_ | refine pass (by decide) ?_)) | ((first | refine post1 ?_ | refine post2 ?_ | refine post3 ?_); simp only [GA, simprocAttr]) | refine post0 ?_
      all_goals first | exact ends_of | exact ends_eq rfl
     ·have l0' := eq_false (show ¬ (l.length : Int) = 0 by omega)
      have e := ge l0 c hg cH
      have q18 : PC Tryd.prog 18 [.vs l.length (fl eZ (grdK l d n l.length)), .vs m.length (fl eH (grwK m d n m.length))] (.tu [vi (cvrR l m).1, .i .i64 0]) := by
       have q := d18 (grdK l d n l.length) (grwK m d n m.length) (by rw [grdK_len (Nat.le_refl _)]; omega) (by rw [grwK_len (Nat.le_refl _)]; omega)
       unfold vZ vH at q
       rwa [grdK_len (Nat.le_refl _), grwK_len (Nat.le_refl _), e, h0] at q
      have lz1 := fl_len eZ_len (grdK l d n l.length)
      have lz2 := fl_len eH_len (grwK m d n m.length)
      rw [grdK_len (Nat.le_refl _)] at lz1
      rw [grwK_len (Nat.le_refl _)] at lz2
      have pV : AV.plains (fl eZ (grdK l d n l.length)) = true := fleZ_plain _
      generalize grwK m d n m.length = G at *
      generalize grdK l d n l.length = K at *
      have zy := hzy
      have zy' : ¬ y = z := fun e => hzy e.symm
      repeat' first | with_reducible refine kzq ?_ | with_reducible refine kzs ?_ | with_reducible refine kzS ?_ | with_reducible refine kzR ?_ | with_reducible refine kzC ?_ | with_reducible refine kzH ?_ | with_reducible refine kzB ?_ | with_reducible refine kzK ?_ | with_reducible refine kzE ?_ | (fail_if_success (with_reducible refine kzg (ops := c27r26) ?_)); with_reducible refine kzg ?_ | with_reducible refine k_head (by with_unfolding_all rfl) ?_ | with_reducible refine k_headS ?_ | (with_reducible refine SepK.mk ?_ ?_; (refine sepQ_P ?_; simp [sepQ, sepG, AOp.late, AOp.free, AOp.xs, AOp.isAl, tokNe, AV.tok, stS_get, strip, AX.val, RG27, GA]; try omega)) | with_reducible refine r_done ?_ | with_reducible refine hr_done ?_ | with_reducible refine s_go (by simp (disch := omega) only [klt', l0', RG27, EVA, plug, eq_self, simprocAttr]; with_reducible rfl) ?_ | with_reducible refine h_go (by with_unfolding_all rfl) (by simp (disch := omega) only [klt', l0', RG27, EVA, plug, eq_self, simprocAttr]; with_reducible rfl) ?_ | ((with_reducible refine kzr ?_); refine zrF ?_) | ((with_reducible refine kzh ?_); refine zhF ?_) | ((with_reducible refine kzr ?_); refine zrP (c := by first | ((refine PC.at q67 rfl ?F; case F => (refine .cons (.row (by simp (disch := omega) only [row_m hmz, RG27, EVA, plug, eq_self, simprocAttr] <;> rfl) pW) .nil)); all_goals fail)) (k := ?_)) | ((with_reducible refine kzh ?_); refine zhP (c := by first | ((refine PC.at q67 rfl ?F; case F => (refine .cons (.row (by simp (disch := omega) only [row_m hmz, RG27, EVA, plug, eq_self, simprocAttr] <;> rfl) pW) .nil)); all_goals fail)) (k := ?_)) | ((with_reducible refine kzh ?_); refine zhQ (c := by first | ((refine PC.at q67 rfl ?F; case F => (refine .cons (.row (by simp (disch := omega) only [row_m hmz, RG27, EVA, plug, eq_self, simprocAttr] <;> rfl) pW) .nil)); all_goals fail)) (k := ?_)) | ((with_reducible refine kzh ?_); refine hr_app (by simp (disch := omega) only [klt', l0', RG27, EVA, plug, eq_self, simprocAttr]; with_reducible rfl) rfl ?_) | (with_reducible refine zkP (fun ht => ?_) (fun ht => ?_) <;> try first | exact False.elim ht | exact absurd rfl ht | exact absurd trivial ht | exact Bool.noConfusion ht) | (with_reducible refine k_ret ?_; repeat with_reducible (first | refine kzt ?_ | refine kzb ?_ | refine fin ?_)) | (with_reducible refine kzx ?_; repeat with_reducible (first | refine thru ?_ | refine kzo ?_ | refine pass (by decide) ?_)) | ((first | refine post1 ?_ | refine post2 ?_ | refine post3 ?_); simp only [GA, simprocAttr]) | refine post0 ?_
      refine w_frzS 11 (t := y) (n := l.length) (a := 17) (cs := fl eZ K) 17 (by simp (disch := omega) only [hmy, RG27, EVA, plug, eq_self, simprocAttr]) rfl (by omega) ?_
      refine w_frzS 16 (t := z) (n := m.length) (a := 6) (cs := fl eH G) 6 (by simp (disch := omega) only [hmz, zy, zy', RG27, EVA, plug, eq_self, simprocAttr]) rfl (by omega) ?_
      repeat' first | (with_reducible first | refine kzq ?_ | refine kzs ?_ | refine kzS ?_ | refine kzR ?_ | refine kzC ?_ | refine kzH ?_ | refine kzB ?_ | refine kzK ?_ | refine kzE ?_ | refine kzg ?_) | with_reducible refine k_head (by with_unfolding_all rfl) ?_ | with_reducible refine k_headS ?_ | (with_reducible refine SepK.mk ?_ ?_; (refine sepQ_P ?_; simp [sepQ, sepG, AOp.late, AOp.free, AOp.xs, AOp.isAl, tokNe, AV.tok, stS_get, strip, AX.val, RG27, GA]; try omega)) | with_reducible refine r_done ?_ | with_reducible refine hr_done ?_ | with_reducible refine s_go (by simp (disch := omega) only [RG27, EVA, plug, eq_self, simprocAttr]; with_reducible rfl) ?_ | with_reducible refine h_go (by with_unfolding_all rfl) (by simp (disch := omega) only [RG27, EVA, plug, eq_self, simprocAttr]; with_reducible rfl) ?_ | ((with_reducible refine kzr ?_); refine zrF ?_) | ((with_reducible refine kzh ?_); refine zhF ?_) | ((with_reducible refine kzr ?_); refine zrP (c := by first | exact q18 _) (k := ?_)) | ((with_reducible refine kzh ?_); refine zhP (c := by first | exact q18 _) (k := ?_)) | ((with_reducible refine kzh ?_); refine zhQ (c := by first | exact q18 _) (k := ?_)) | ((with_reducible refine kzh ?_); refine hr_app (by simp (disch := omega) only [RG27, EVA, plug, eq_self, simprocAttr]; with_reducible rfl) rfl ?_) | (with_reducible refine zkP (fun ht => ?_) (fun ht => ?_) <;> try first | exact False.elim ht | exact absurd rfl ht | exact absurd trivial ht | exact Bool.noConfusion ht) | (with_reducible (refine k_ret ?_; repeat first | refine kzt ?_ | refine kzb ?_ | refine fin ?_)) | (with_reducible (refine kzx ?_; repeat first | refine thru ?_ | refine kzo ?_ | refine pass (by decide) ?_)) | ((first | refine post1 ?_ | refine post2 ?_ | refine post3 ?_); simp only [GA, simprocAttr]) | refine post0 ?_
      refine k_blk (k_loopS (X := Unit) [4, 20, 94, 95] (cvrR l m).1.length (fun k _ => [(4, vi (cvrR l m).1), (20, vi (cvrR l m).1), (94, .i .i64 (cvrR l m).1.length), (95, .i .i64 (k : Int))]) (fun k _ h => True) () (by simp only [Am.keep, ZK, simprocAttr]; try rfl) trivial ?_)
      rintro k _ h hk - ok pos
      by_cases klt : k < (cvrR l m).1.length
      ·have klt' : (k : Int) < (cvrR l m).1.length := by omega
       have g := il_get klt
       repeat' first | (with_reducible first | refine kzq ?_ | refine kzs ?_ | refine kzS ?_ | refine kzR ?_ | refine kzC ?_ | refine kzH ?_ | refine kzB ?_ | refine kzK ?_ | refine kzE ?_ | refine kzg ?_) | with_reducible refine k_head (by with_unfolding_all rfl) ?_ | with_reducible refine k_headS ?_ | (with_reducible refine SepK.mk ?_ ?_; (refine sepQ_P ?_; simp [sepQ, sepG, AOp.late, AOp.free, AOp.xs, AOp.isAl, tokNe, AV.tok, stS_get, strip, AX.val, RG27, GA]; try omega)) | with_reducible refine r_done ?_ | with_reducible refine hr_done ?_ | with_reducible refine s_go (by simp (disch := omega) only [klt', g, RG27, EVA, plug, eq_self, simprocAttr]; with_reducible rfl) ?_ | with_reducible refine h_go (by with_unfolding_all rfl) (by simp (disch := omega) only [klt', g, RG27, EVA, plug, eq_self, simprocAttr]; with_reducible rfl) ?_ | ((with_reducible refine kzr ?_); refine zrF ?_) | ((with_reducible refine kzh ?_); refine zhF ?_) | ((with_reducible refine kzh ?_); refine hr_app (by simp (disch := omega) only [klt', g, RG27, EVA, plug, eq_self, simprocAttr]; with_reducible rfl) rfl ?_) | (with_reducible refine zkP (fun ht => ?_) (fun ht => ?_) <;> try first | exact False.elim ht | exact absurd rfl ht | exact absurd trivial ht | exact Bool.noConfusion ht) | (with_reducible (refine k_ret ?_; repeat first | refine kzt ?_ | refine kzb ?_ | refine fin ?_)) | (with_reducible (refine kzx ?_; repeat first | refine thru ?_ | refine kzo ?_ | refine pass (by decide) ?_)) | ((first | refine post1 ?_ | refine post2 ?_ | refine post3 ?_); simp only [GA, simprocAttr]) | refine post0 ?_
       exact ⟨klt, (), (by simp only [Am.keep, ZK, simprocAttr]; try rfl), trivial⟩
      ·obtain rfl : k = (cvrR l m).1.length := by omega
       have klt' : ¬ ((cvrR l m).1.length : Int) < (cvrR l m).1.length := by omega
       repeat' first | (with_reducible first | refine kzq ?_ | refine kzs ?_ | refine kzS ?_ | refine kzR ?_ | refine kzC ?_ | refine kzH ?_ | refine kzB ?_ | refine kzK ?_ | refine kzE ?_ | refine kzg ?_) | with_reducible refine k_head (by with_unfolding_all rfl) ?_ | with_reducible refine k_headS ?_ | (with_reducible refine SepK.mk ?_ ?_; (refine sepQ_P ?_; simp [sepQ, sepG, AOp.late, AOp.free, AOp.xs, AOp.isAl, tokNe, AV.tok, stS_get, strip, AX.val, RG27, GA]; try omega)) | with_reducible refine r_done ?_ | with_reducible refine hr_done ?_ | with_reducible refine s_go (by simp (disch := omega) only [klt', RG27, EVA, plug, eq_self, simprocAttr]; with_reducible rfl) ?_ | with_reducible refine h_go (by with_unfolding_all rfl) (by simp (disch := omega) only [klt', RG27, EVA, plug, eq_self, simprocAttr]; with_reducible rfl) ?_ | ((with_reducible refine kzr ?_); refine zrF ?_) | ((with_reducible refine kzh ?_); refine zhF ?_) | ((with_reducible refine kzh ?_); refine hr_app (by simp (disch := omega) only [klt', RG27, EVA, plug, eq_self, simprocAttr]; with_reducible rfl) rfl ?_) | (with_reducible refine zkP (fun ht => ?_) (fun ht => ?_) <;> try first | exact False.elim ht | exact absurd rfl ht | exact absurd trivial ht | exact Bool.noConfusion ht) | (with_reducible (refine k_ret ?_; repeat first | refine kzt ?_ | refine kzb ?_ | refine fin ?_)) | (with_reducible (refine kzx ?_; repeat first | refine thru ?_ | refine kzo ?_ | refine pass (by decide) ?_)) | ((first | refine post1 ?_ | refine post2 ?_ | refine post3 ?_); simp only [GA, simprocAttr]) | refine post0 ?_
       all_goals first | exact ends_of | exact ends_eq rfl
end Go.Proofs.YtjaihaccehaicaaDoor
set_option linter.unusedVariables false
set_option linter.unusedSimpArgs false
namespace Go.Am
variable {dfs : List Deferred}
section
variable {P : Program} {N : Nat} {Q : Exit → St → AH → Prop} {st0 : St} {h0 hT : AH} {w0 : World} {ι0 : Inj} {base : Nat} {ops : Array Oper} {aops : List AOper} {dep : Nat → Nat → Prop} {m : Nat} {O E : List Nat}
variable {QQ : Exit → Act → World → Prop} {K : St → AH → Prop}
theorem lp_wpAny2 (H : HeadOK ops aops dep m) (hof : opersOf P N ops = some aops) (hmn : m ≤ ops.size) (hna : ∀ b, aops[m]? = some b → b.app1 = true → ∀ k, k < m → ∃ i, k < i ∧ i ≤ m ∧ dep k i)
 (hK : ∀ st h ι a w, K st h → ARel N dfs ι st a → WRel ι h w → Ext ι0 h0 w0 ι h w → QQ .normal a w) {ρ : Nat → AV} {η : Nat → AH}
 (hok : ∀ j ao, j < m → aops[j]? = some ao → LpS P hT base O E aops st0 ρ η j ao)
 (hsub : ∀ j, j ≤ m → (∀ t c, hT.m t = some c → (η j).m t = some c) ∧ ∀ e ∈ E, (η j).m (base + e) = none)
 (hch : ∀ p i, p < i → i < m → O.contains p = true → O.contains i = true → (∀ q, p < q → q < i → O.contains q = false) → dep p i)
 (htail : evOps P base (aops.drop m) m (stD aops ρ st0 full m) (η m) K) :
 ∀ (fuel : Nat) (listed : Array Bool) (a : Act) (w : World) (ι : Inj) (h : AH) (n : Nat), cnt (lst listed) ops.size + fuel = ops.size → listed.size = ops.size → Closed ops (lst listed) → (∀ j, lst listed j = true → j < m) →
   n ≤ m → (∀ j, j < m → O.contains j = true → (lst listed j = true ↔ j < n)) → h = η n →
   Inv N dfs ι0 h0 w0 base ops.size (fun j => lst listed j = false) (stD aops ρ st0 (lst listed) m) h a w ι → wpAny P .any ops QQ fuel listed a w := by
 obtain ⟨hlen, hget⟩ := opersOf_spec hof
 have hcal : ∀ {j : Nat}, j < m → O.contains j = false → η (j + 1) = η j := fun {j} hj hc => by
  rcases hok j _ hj (List.getElem?_eq_getElem (by omega)) with q | q | q
  ·exact q.2.2.1
  ·rw [q.2.1] at hc; cases hc
  ·exact q.2.2.2.1
 -- nothing in order from n up to i
 have same : ∀ (n i : Nat), n ≤ i → i ≤ m → (∀ j, n ≤ j → j < i → O.contains j = false) → η i = η n := by
  intro n i hni
  induction i with
  | zero => intro _ _; have : n = 0 := by omega
            subst this; rfl
  | succ i ih =>
    intro him hc
    by_cases e : n = i + 1
    ·subst e; rfl
    ·rw [hcal (by omega) (hc i (by omega) (by omega))]
     exact ih (by omega) (by omega) fun j h1 h2 => hc j h1 (by omega)
 have finish : ∀ (fuel : Nat) (listed : Array Bool) (a : Act) (w : World) (ι : Inj) (h : AH) (n : Nat), cnt (lst listed) ops.size + fuel = ops.size → listed.size = ops.size → (∀ j, lst listed j = true → j < m) → n ≤ m →
  (∀ j, j < m → O.contains j = true → (lst listed j = true ↔ j < n)) → h = η n → Inv N dfs ι0 h0 w0 base ops.size (fun j => lst listed j = false) (stD aops ρ st0 (lst listed) m) h a w ι →
  (∀ k, k < m → lst listed k = true) → wpAny P .any ops QQ fuel listed a w := by
  intro fuel listed a w ι h n hc hs hlm hn hcl hh I hbelow
  have e1 : stD aops ρ st0 (lst listed) m = stD aops ρ st0 full m := stD_congr fun j hj => ⟨rfl, hbelow j hj⟩
  rw [e1] at I
  have hcnt : cnt (lst listed) ops.size = m := by
   have : ∀ k, k ≤ ops.size → cnt (lst listed) k = min k m := by
    intro k
    induction k with
    | zero => intro _; simp [cnt]
    | succ k ihk =>
      intro hk
      simp only [cnt, ihk (by omega)]
      by_cases hki : k < m
      ·rw [if_pos (hbelow k hki)]; omega
      ·rw [if_neg (fun hq => hki (hlm k hq))]; omega
   have := this ops.size (Nat.le_refl _)
   omega
  have hm : h = η m := by
   rw [same n m hn (Nat.le_refl _) fun j h1 h2 => by
    cases q : O.contains j with
    | false => rfl
    | true => have := (hcl j h2 q).1 (hbelow j h2); omega]
   exact hh
  subst hm
  exact tail_wpAny H hof hK fuel listed a w m _ _ ι (by omega) (Nat.le_refl _) hs (fun j => ⟨hlm j, hbelow j⟩)
   ⟨I.ar, I.wr, I.ex, fun j hj hf => I.fr j hj (by cases hq : lst listed j with | false => rfl | true => have := hlm j hq; omega), I.nx, I.b0, I.b1⟩ htail
 intro fuel
 induction fuel with
 | zero =>
   intro listed a w ι h n hc hs hcl hlm hn hcc hh I
   have hall := cnt_all (D := lst listed) (k := ops.size) (by omega)
   exact finish 0 listed a w ι h n hc hs hlm hn hcc hh I fun k hk => hall k (by omega)
 | succ fuel ih =>
   intro listed a w ι h n hc hs hcl hlm hn hcc hh I
   have hin : ∀ j, lst listed j = true → j < ops.size := fun j hj => lst_lt hs hj
   by_cases hbelow : ∀ k, k < m → lst listed k = true
   ·exact finish (fuel + 1) listed a w ι h n hc hs hlm hn hcc hh I hbelow
   refine ⟨fun hr => ?_, fun i hi => ?_⟩
   ·exact absurd (fun k hk => ready_nil H hs hr k (by omega)) hbelow
   ·obtain ⟨h1, h2, h3⟩ := ready_spec hs hi
    have hdeps : ∀ k, dep k i → lst listed k = true := by
     intro k hk
     obtain ⟨e', he', hb', hor⟩ := H.c2 i ops[i] k (by simp [h1]) hk
     have hle := h3 _ e' (by simp [h1]) he' hb'
     rcases hor with hor | hor
     ·rw [← hor]; exact hle
     ·exact closed_dep H hcl hin _ _ hle hor
    have him : i < m := by
     refine Classical.byContradiction fun him => hbelow fun k hk => ?_
     rcases H.c4 k i (by omega) h1 (by omega) with q | ⟨q, _, b, hb, hb1⟩
     ·exact hdeps k q
     ·subst q
      have : ∀ g k, k + g = i → k < i → lst listed k = true := fun g => by
       induction g using Nat.strongRecOn with
       | _ g ih =>
         intro k hg hk
         obtain ⟨i', a1, a2, a3⟩ := hna b hb hb1 k hk
         by_cases e : i' = i
         ·subst e; exact hdeps k a3
         ·exact closed_dep H hcl hin i' k (ih (i - i') (by omega) i' (by omega) (by omega)) a3
      exact this (i - k) k (by omega) hk
    obtain ⟨ao, hao, hofo, hd, hdN, hgN⟩ := hget i ops[i] (by simp [h1])
    have hset := lst_set (listed := listed) (i := i) (by omega)
    have slots : ∀ x ∈ ao.reads, (stD aops ρ st0 full i).get x = (stD aops ρ st0 (lst listed) m).get x := fun x hx => (slots_same H hlen hcl hin hao him h2 hdeps hx).symm
    have next : ∀ (n' : Nat) (h' : AH) (a' : Act) (w' : World) (ι' : Inj), n' ≤ m → (∀ j, j < m → O.contains j = true → ((lst listed j || j == i) = true ↔ j < n')) → h' = η n' →
     Inv N dfs ι0 h0 w0 base ops.size (fun j => lst listed j = false ∧ ¬ j = i) (put ao.d (ρ i) (stD aops ρ st0 (lst listed) m)) h' a' w' ι' → wpAny P .any ops QQ fuel (listed.setIfInBounds i true) a' w' := by
     intro n' h' a' w' ι' hn' hcc' hh' I'
     refine ih (listed.setIfInBounds i true) a' w' ι' h' n' ?_ (by simpa using hs) ?_ ?_ hn' (fun j hj hca => by rw [hset]; exact hcc' j hj hca) hh' ?_
     ·rw [hset, cnt_insert h2 h1]; omega
     ·rw [hset]
      intro j o e hj ho he hb'
      simp only [Bool.or_eq_true, beq_iff_eq] at hj ⊢
      rcases hj with hj | rfl
      ·exact .inl (hcl j o e hj ho he hb')
      ·exact .inl (h3 o e ho he hb')
     ·rw [hset]
      intro j hj
      simp only [Bool.or_eq_true, beq_iff_eq] at hj
      rcases hj with hj | rfl
      ·exact hlm j hj
      ·exact him
     ·rw [hset]
      refine ⟨⟨I'.ar.size, I'.ar.defs, I'.ar.tab, fun x => ?_⟩, I'.wr, I'.ex, fun j hj hf => ?_, I'.nx, I'.b0, I'.b1⟩
      ·rw [stD_insert H hcl hin hao him h2]
       exact I'.ar.slot x
      ·simp only [Bool.or_eq_false_iff, beq_eq_false_iff_ne] at hf
       exact I'.fr j hj ⟨hf.1, hf.2⟩
    have vals : ∀ x ∈ ao.op.xs, x.val (stD aops ρ st0 full i) = x.val (stD aops ρ st0 (lst listed) m) := fun x hx => by
     cases x with
     | c v => rfl
     | t k => exact slots k (by unfold AOper.reads; exact List.mem_append_left _ (List.mem_filterMap.2 ⟨.t k, hx, rfl⟩))
    have pure : O.contains i = false → ∀ j, j < m → O.contains j = true → ((lst listed j || j == i) = true ↔ j < n) := fun hO j hj hca => by
     have : j ≠ i := fun e => by subst e; rw [hO] at hca; cases hca
     rw [Bool.or_eq_true, beq_iff_eq, hcc j hj hca]
     exact ⟨fun z => z.resolve_right this, .inl⟩
    rcases hok i ao him hao with ⟨q1, q0, q2, q3⟩ | ⟨qg, q0, q⟩ | ⟨qg, q0, qE, q2, k, zero, parts, cs, c1, c2, c3, c4, c5⟩
    ·have hmove : okG P (base + i) h ao (stD aops ρ st0 (lst listed) m) h (ρ i) none := okG_move slots (fun _ x t _ _ c hr => by rw [hh]; exact (hsub n hn).1 t c hr) (okG_hb q1 q3)
     have hev := okG_ev (fun hc => by rw [val_cal q1] at hc; cases hc) rfl hmove
     refine wpOp_mono ?_ (evG_wpOp (o := ops[i]) (by simp [h1]) hofo hdN hgN h1 h2 I hev)
     rintro a' w' ⟨st', h', ι', ⟨rfl, rfl⟩, I'⟩
     exact next n _ a' w' ι' hn (pure q0) hh I'
    ·have hni : n ≤ i := by
      refine Classical.byContradiction fun z => ?_
      rw [(hcc i him q0).2 (by omega)] at h2; cases h2
     have hcb : ∀ j, j < i → O.contains j = true → lst listed j = true := by
      intro j hj hO
      -- the last one ahead of i
      have : ∀ g, j + g < i → (∀ q, j + g < q → q < i → O.contains q = false) → O.contains (j + g) = true → lst listed j = true := fun g hg hb hOg => by
       have l1 := hdeps _ (hch (j + g) i hg him hOg q0 hb)
       have l2 := (hcc (j + g) (by omega) hOg).1 l1
       exact (hcc j (by omega) hO).2 (by omega)
      have : ∃ p, j ≤ p ∧ p < i ∧ O.contains p = true ∧ ∀ q, p < q → q < i → O.contains q = false := by
       have key : ∀ g, g ≤ i - j → (∃ p, j ≤ p ∧ p < i ∧ O.contains p = true ∧ ∀ q, p < q → q < i → O.contains q = false) ∨ ∀ q, i - g ≤ q → q < i → O.contains q = false := by
        intro g
        induction g with
        | zero => intro _; exact .inr fun q h1 h2 => by omega
        | succ g ihg =>
          intro hg
          rcases ihg (by omega) with r | r
          ·exact .inl r
          ·cases ho : O.contains (i - (g + 1)) with
           | true => exact .inl ⟨i - (g + 1), by omega, by omega, ho, fun q h1 h2 => r q (by omega) h2⟩
           | false =>
             refine .inr fun q h1 h2 => ?_
             by_cases e : q = i - (g + 1)
             ·rw [e]; exact ho
             ·exact r q (by omega) h2
       rcases key (i - j) (Nat.le_refl _) with r | r
       ·exact r
       ·have := r j (by omega) hj; rw [hO] at this; cases this
      obtain ⟨p, p1, p2, p3, p4⟩ := this
      have l1 := hdeps p (hch p i p2 him p3 q0 p4)
      have l2 := (hcc p (by omega) p3).1 l1
      exact (hcc j (by omega) hO).2 (by omega)
     have hHi : h = η i := by
      rw [same n i hni (by omega) fun j hj1 hj2 => by
       cases z : O.contains j with
       | false => rfl
       | true => have := (hcc j (by omega) z).1 (hcb j hj2 z); omega]
      exact hh
     have hev : evG P (base + i) ao (stD aops ρ st0 (lst listed) m) h fun st' h' => st' = put ao.d (ρ i) (stD aops ρ st0 (lst listed) m) ∧ h' = η (i + 1) := by
      unfold evG
      rw [qg]
      simp only []
      rcases q with ⟨k, b, x, y, e1, e2⟩ | ⟨f, args, fid, fst, caps, e1, e2, e3⟩
      ·rw [e1] at vals ⊢
       simp only [evA]
       rw [← vals x (by simp [AOp.xs]), ← vals y (by simp [AOp.xs]), hHi, e2]
       exact ⟨rfl, rfl⟩
      ·rw [e1] at vals ⊢
       simp only [evA]
       rw [← vals f (by simp [AOp.xs]), e2]
       simp only []
       rw [← List.map_congr_left (f := AX.val (stD aops ρ st0 full i)) fun y hy => vals y (by simp [AOp.xs, hy]), hHi]
       exact e3.mono fun r h' ⟨hr, hh'⟩ => ⟨by rw [hr], hh'⟩
     refine wpOp_mono ?_ (evG_wpOp (o := ops[i]) (by simp [h1]) hofo hdN hgN h1 h2 I hev)
     rintro a' w' ⟨st', h', ι', ⟨rfl, hh'⟩, I'⟩
     refine next (i + 1) h' a' w' ι' (by omega) (fun j hj hc' => ?_) hh' I'
     rw [Bool.or_eq_true, beq_iff_eq]
     constructor
     ·rintro (z | z)
      ·have := (hcc j hj hc').1 z; omega
      ·omega
     ·intro z
      by_cases e : j = i
      ·exact .inr e
      ·exact .inl (hcb j (by omega) hc')
    ·have hfr : h.m (base + i) = none := by rw [hh]; exact (hsub n hn).2 i qE
     have af : afill (AX.val (stD aops ρ st0 (lst listed) m)) zero parts = some cs := by
      rw [← c2]
      refine (afill_congr fun y hy => ?_).symm
      refine vals y ?_
      rw [c1]
      exact hy
     have hev : evG P (base + i) ao (stD aops ρ st0 (lst listed) m) h fun st' h' => st' = put ao.d (if zero.length = 0 then .sl 0 0 0 k else .sl (base + i) 0 (if k = 0 then 0 else zero.length / k) k) (stD aops ρ st0 (lst listed) m) ∧ h' = h.set (base + i) (.cells true cs) := by
      unfold evG
      rw [qg, c1]
      simp only [evA, AOp.isAl, if_true, AOp.al, af, Option.map_some]
      exact ⟨trivial, trivial⟩
     refine wpOp_mono ?_ (evG_wpOp (o := ops[i]) (by simp [h1]) hofo hdN hgN h1 h2 I hev)
     rintro a' w' ⟨st', h', ι', ⟨rfl, rfl⟩, I'⟩
     obtain ⟨ι2, I2⟩ := lit_inv hfr c3 c4 I'
     rw [← c5] at I2
     exact next n h a' w' ι2 hn (pure q0) hh I2
theorem awp_lp2 {id : Nat} {st : St} {h : AH} (O E : List Nat) (hmix : P.follows .mixedOrders = true) (hof : opersOf P N ops = some aops) (H : HeadOK ops aops dep m) (hmn : m ≤ ops.size) (hna : ∀ k, k < m → ∃ i a b, k < i ∧ i ≤ m ∧ aops[k]? = some a ∧ aops[i]? = some b ∧ a.clash b = true)
 (hch : ∀ p i, p < i → i < m → O.contains p = true → O.contains i = true → (∀ q, p < q → q < i → O.contains q = false) → ∃ a b, aops[p]? = some a ∧ aops[i]? = some b ∧ a.clash b = true)
 (e : evLp P h h.nx O E (aops.take m) 0 st { h with nx := h.nx + aops.length } fun st' h' => evOps P h.nx (aops.drop m) m st' h' fun st h => Q .normal st h) :
 Awp P N (.region id ops true) Q st h := fun dfs ι a w ar wr => by
 obtain ⟨hlen, _⟩ := opersOf_spec hof
 refine wp_mono (wp_region_any (opersOf_nd hof) (nrm_lets (Q := Q)) hmix ?_) nrm_lift
 obtain ⟨ρ, η, _, hH0, hok, hsub, htail⟩ := lp_ok (P := P) (aops := aops) (st0 := st) (hT := h) (m := m) (O := O) (E := E) (base := h.nx) (by omega) m 0 (by omega) (fun _ => .un) (fun _ => { h with nx := h.nx + aops.length }) (fun t c q => q)
  (fun e _ => by
   cases q : h.m (h.nx + e) with
   | none => rfl
   | some c => have := (wr.blk _ c q).1; omega) (by simpa [stD] using e)
 have hfalse : lst (Array.replicate ops.size false) = fun _ => false := by
  funext j
  unfold lst
  rw [Array.getD_eq_getD_getElem?]
  by_cases hj : j < ops.size
  ·simp [hj]
  ·rw [Array.getElem?_eq_none (by simp; omega)]; rfl
 have hst : stD aops ρ st (fun _ => false) m = st := by
  have : ∀ k, stD aops ρ st (fun _ => false) k = st := by
   intro k; induction k with
   | zero => rfl
   | succ k ih => simp [stD, ih]
  exact this m
 refine lp_wpAny2 (ι0 := ι) (h0 := h) (w0 := w) (base := h.nx) (st0 := st) (hT := h) (O := O) (E := E) (K := fun st h => Q .normal st h) H hof hmn (fun _ _ _ k hk => let ⟨i, a, b, q1, q2, q3, q4, q5⟩ := hna k hk; ⟨i, q1, q2, H.c3 k i a b q1 q3 q4 q5⟩) (fun st' h' ι' a' w' k ar' wr' x => ⟨st', h', ι', ⟨rfl, k⟩, ar', wr', x⟩) (ρ := ρ) (η := η)
  (fun j ao hj hao => hok j ao (Nat.zero_le _) hj hao) (fun j hj => hsub j (Nat.zero_le _) hj)
  (fun p i h1 h2 h3 h4 h5 => let ⟨a, b, q1, q2, q3⟩ := hch p i h1 h2 h3 h4 h5; H.c3 p i a b h1 q1 q2 q3) htail ops.size _ a _ ι { h with nx := h.nx + aops.length } 0 ?_ (by simp) ?_ ?_ (Nat.zero_le _) (fun j hj hc => ?_) ?_ ?_
 ·rw [hfalse]
  have : ∀ k, cnt (fun _ => false) k = 0 := by
   intro k; induction k with
   | zero => rfl
   | succ k ih => simp [cnt, ih]
  rw [this]; omega
 ·rw [hfalse]; intro j o e' hj; cases hj
 ·rw [hfalse]; intro j hj; cases hj
 ·rw [hfalse]; simp
 ·rw [hH0 0 (Nat.le_refl _)]
 ·rw [hfalse, hst]
  refine ⟨ar, (wr.bump _).drew, ((Ext.refl ι h w).bump _).drew, fun j hj hf => ?_, by simp [hlen], Nat.le_refl _, wr.pos⟩
  cases hq : ι (h.nx + j) with
  | none => rfl
  | some l => have := (wr.lt _ l hq).1; omega
end
section
variable {P : Program} {N : Nat} {Q : Exit → St → AH → Prop} {K : St → AH → Prop} {st : St} {h hT : AH} {base : Nat} {O E : List Nat}
theorem k_headP2 {m : Nat} {ops : List AOper} (O E : List Nat) (hna : ∀ k, k < m → ∃ i a b, k < i ∧ i ≤ m ∧ ops[k]? = some a ∧ ops[i]? = some b ∧ a.clash b = true)
 (hch : ∀ p i, p < i → i < m → O.contains p = true → O.contains i = true → (∀ q, p < q → q < i → O.contains q = false) → ∃ a b, ops[p]? = some a ∧ ops[i]? = some b ∧ a.clash b = true)
 (e : evLp P h h.nx O E (ops.take m) 0 st (h.bump ops.length) fun st' h' => evOps P h.nx (ops.drop m) m st' h' K) : W P N (.head m ops) (athen K Q) st h := fun c hc => by
 cases hc with
 | head hl hm hh =>
   obtain ⟨H, hmn⟩ := headB_spec hh
   exact awp_lp2 O E hm hl H hmn hna hch e
end
end Go.Am
set_option linter.unusedVariables false
set_option linter.unusedSimpArgs false
namespace Go.Proofs.YtjaihaccehaicaaDoor
open Go Go.Am Go.Proofs
theorem less_cov {l : List Sz} {m : List Hd} (h0 : (cvrR l m).2 = 0) {k : Nat} (hk : k < (cvrR l m).1.length) : covR l m ((cvrR l m).1.eraseIdx k) = (false, 0) := by
 obtain ⟨c, n12, L⟩ := cvr_ok h0
 have hs := List.eraseIdx_sublist (cvrR l m).1 k
 have hp : pkOk ((cvrR l m).1.eraseIdx k) l.length = true := pk_of_asc (List.Pairwise.sublist hs L.1.1) fun x hx => L.1.2.1 x (hs.subset hx)
 unfold covR
 rw [if_neg (by simp [c]), if_neg (by simp [hp])]
 cases e : cvsB l m ((cvrR l m).1.eraseIdx k) with
 | false => rfl
 | true =>
   have := least_le h0 hp e
   rw [List.length_eraseIdx_of_lt hk] at this
   omega
theorem chk_hd {l : List Sz} {m : List Hd} (c : chk l m = 0) {k : Nat} (hk : k < m.length) : chk l [hD m k] = 0 := by
 have h : hdsOk [hD m k] = true := by
  rw [hdsOk_iff]
  refine ⟨by simp, fun j hj => ?_, fun j hj i hi => ?_⟩
  ·obtain rfl : j = 0 := by simp at hj; omega
   exact (hdsOk_iff.1 (chk_ok c).2).2.1 k hk
  ·simp at hj; omega
 unfold chk
 rw [(chk_ok c).1, h]
 rfl
theorem ch_of {l : List Sz} {m : List Hd} (h0 : (cvrR l m).2 = 0) {k : Nat} (hk : k < m.length) : ∃ j : Nat, j < l.length ∧ chR l (hD m k) = ((j : Int), 0) ∧ fitB (zD l j) (hD m k) = true ∧ ∀ i, i < l.length → fitB (zD l i) (hD m k) = true → nS (zD l j) (hD m k) 5 ≤ nS (zD l i) (hD m k) 5 := by
 obtain ⟨c, n12, L⟩ := cvr_ok h0
 obtain ⟨i, hi, q⟩ := cvs_iff.1 L.1.2.2 k hk
 have b := L.1.2.1 i hi
 obtain ⟨o1, o2⟩ := chS_ok l (hD m k) l.length
 have pos : 0 ≤ (chS l (hD m k) l.length).1 := Classical.byContradiction fun n => by
  have := o1 (by omega) i.toNat (by omega)
  rw [q] at this; cases this
 obtain ⟨p1, p2, p3, p4⟩ := o2 pos
 refine ⟨_, p1, ?_, p2, fun i hi hf => by rw [← p3]; exact p4 i hi hf⟩
 unfold chR
 rw [if_neg (by simp [chk_hd c hk]), if_neg (by omega), Int.toNat_of_nonneg pos]
theorem RG7 : (type_of% @c7r0.eq_1) ∧ (type_of% @c7r1.eq_1) ∧ (type_of% @c7r2.eq_1) ∧ (type_of% @c7r3.eq_1) ∧ (type_of% @c7r4.eq_1) ∧ (type_of% @c7r5.eq_1) ∧ (type_of% @c7r6.eq_1) ∧ (type_of% @c7r7.eq_1) ∧ (type_of% @c7r8.eq_1) ∧ (type_of% @c7r9.eq_1) ∧ (type_of% @c7r10.eq_1) ∧ (type_of% @c7r11.eq_1) ∧ (type_of% @c7r12.eq_1) ∧ (type_of% @c7r13.eq_1) ∧ (type_of% @c7r14.eq_1) ∧ (type_of% @c7r15.eq_1) ∧ (type_of% @c7r17.eq_1) ∧ (type_of% @c7r18.eq_1) ∧ (type_of% @c7r19.eq_1) ∧ (type_of% @c7r20.eq_1) ∧ (type_of% @c7r21.eq_1) ∧ (type_of% @c7r22.eq_1) ∧ (type_of% @c7r23.eq_1) ∧ (type_of% @c7r25.eq_1) := ⟨@c7r0.eq_1, @c7r1.eq_1, @c7r2.eq_1, @c7r3.eq_1, @c7r4.eq_1, @c7r5.eq_1, @c7r6.eq_1, @c7r7.eq_1, @c7r8.eq_1, @c7r9.eq_1, @c7r10.eq_1, @c7r11.eq_1, @c7r12.eq_1, @c7r13.eq_1, @c7r14.eq_1, @c7r15.eq_1, @c7r17.eq_1, @c7r18.eq_1, @c7r19.eq_1, @c7r20.eq_1, @c7r21.eq_1, @c7r22.eq_1, @c7r23.eq_1, @c7r25.eq_1⟩
set_option maxHeartbeats 2000000 in
theorem d7 (l : List Sz) (m : List Hd) (w : Int) (d : Nat → Int) (n : Int) (hl : l.length ≤ 9223372036854775807) (hm : m.length ≤ 9223372036854775807) : PC Tryd.prog 7 [vZ l, vH m, .i .i64 w, .ag (e5 d), .i .i64 n] (.b true) := by
 have q1 := pc67 m hm
 have q2 := d24
 have q4 := d18 l m hl hm
 by_cases ok0 : hdsOk m = true ∧ 0 ≤ w ∧ w ≤ 3000
 ·obtain ⟨hH, w0, w1⟩ := ok0
  have q3 := d25 m w hH ⟨w0, w1⟩
  rw [hH] at q1
  have w0' := eq_false (show ¬ w < 0 by omega)
  have w1' := eq_false (show ¬ 3000 < w by omega)
  by_cases e0 : (cvrR l m).2 = 0
  ·have q5 := d27 l m d n e0
   have lc := fun k => less_cov (l := l) (m := m) e0 (k := k)
   have co := fun k => ch_of (l := l) (m := m) e0 (k := k)
   obtain ⟨ck, n12, LL⟩ := cvr_ok e0
   have M := hdsOk_iff.1 hH
   have bl := cvrR_len l m
   rw [e0] at q4
   generalize (cvrR l m).1 = b at *
   refine pc_fn fn7 (by simp only [AV.plains, AV.plain, il_plain, bl_plain, Bool.and_true, Bool.true_and, Bool.and_self, fleZ_plain, fleH_plain]) (by simp only [AV.plains, AV.plain, il_plain, bl_plain, Bool.and_true, Bool.true_and, Bool.and_self, fleZ_plain, fleH_plain]) (Nat.le_of_ble_eq_true rfl) ?_
   rw [initSt5]
   repeat' first | (with_reducible first | refine kzq ?_ | refine kzs ?_ | refine kzS ?_ | refine kzR ?_ | refine kzC ?_ | refine kzH ?_ | refine kzB ?_ | refine kzK ?_ | refine kzE ?_ | refine kzg ?_) | with_reducible refine k_head (by with_unfolding_all rfl) ?_ | with_reducible refine k_headS ?_ | (with_reducible refine SepK.mk ?_ ?_; (refine sepQ_P ?_; simp [sepQ, sepG, AOp.late, AOp.free, AOp.xs, AOp.isAl, tokNe, AV.tok, stS_get, strip, AX.val, RG7, GA]; try omega)) | with_reducible refine r_done ?_ | with_reducible refine hr_done ?_ | with_reducible refine s_go (by simp (disch := omega) only [w0', w1', RG7, EVA, plug, eq_self, simprocAttr]; with_reducible rfl) ?_ | with_reducible refine h_go (by with_unfolding_all rfl) (by simp (disch := omega) only [w0', w1', RG7, EVA, plug, eq_self, simprocAttr]; with_reducible rfl) ?_ | ((with_reducible refine kzr ?_); refine zrF ?_) | ((with_reducible refine kzh ?_); refine zhF ?_) | ((with_reducible refine kzr ?_); refine zrP (c := by first | exact q1 _ | exact q3 _ | exact q4 _) (k := ?_)) | ((with_reducible refine kzh ?_); refine zhP (c := by first | exact q1 _ | exact q3 _ | exact q4 _) (k := ?_)) | ((with_reducible refine kzh ?_); refine zhQ (c := by first | exact q1 _ | exact q3 _ | exact q4 _) (k := ?_)) | ((with_reducible refine kzr ?_); refine zrG (c := by intro hg; (try simp only [BO] at hg); first | exact q1 _ | exact q3 _ | exact q4 _) (k := ?_)) | ((with_reducible refine kzh ?_); refine zhG (c := by intro hg; (try simp only [BO] at hg); first | exact q1 _ | exact q3 _ | exact q4 _) (k := ?_)) | ((with_reducible refine kzh ?_); refine hr_app (by simp (disch := omega) only [w0', w1', RG7, EVA, plug, eq_self, simprocAttr]; with_reducible rfl) rfl ?_) | (with_reducible refine zkP (fun ht => ?_) (fun ht => ?_) <;> try first | exact False.elim ht | exact absurd rfl ht | exact absurd trivial ht | exact Bool.noConfusion ht) | (with_reducible (refine k_ret ?_; repeat first | refine kzt ?_ | refine kzb ?_ | refine fin ?_)) | (with_reducible (refine kzx ?_; repeat first | refine thru ?_ | refine kzo ?_ | refine pass (by decide) ?_)) | ((first | refine post1 ?_ | refine post2 ?_ | refine post3 ?_); simp only [GA, simprocAttr]) | refine post0 ?_
   refine k_blk (k_loopS (X := Unit) [0, 1, 4, 8, 11, 47, 48] b.length (fun k _ => [(0, vZ l), (1, vH m), (4, .i .i64 n), (8, .p 1 0), (11, vi b), (47, .i .i64 b.length), (48, .i .i64 (k : Int))]) (fun k _ h => h.m 1 = some (.cells true (e5 d))) () (by simp only [Am.keep, ZK, simprocAttr]; try rfl) (by simp (disch := omega) only [RG7, EVA, plug, eq_self, simprocAttr] <;> rfl) ?_)
   rintro k _ h hk hm1 ok pos
   have l1 := ok.m hm1
   by_cases klt : k < b.length
   ·have klt' : (k : Int) < b.length := by omega
    have qc := pc27 l m (b.eraseIdx k) hl hm (by rw [List.length_eraseIdx_of_lt klt]; omega)
    rw [lc k klt] at qc
    repeat' first | (with_reducible first | refine kzq ?_ | refine kzs ?_ | refine kzS ?_ | refine kzR ?_ | refine kzC ?_ | refine kzH ?_ | refine kzB ?_ | refine kzK ?_ | refine kzE ?_ | refine kzg ?_) | with_reducible refine r_done ?_ | with_reducible refine s_go (by simp (disch := omega) only [klt', RG7, EVA, plug, eq_self, simprocAttr]; with_reducible rfl) ?_ | ((with_reducible refine kzr ?_); refine zrF ?_) | (with_reducible refine zkP (fun ht => ?_) (fun ht => ?_) <;> try first | exact False.elim ht | exact absurd rfl ht | exact absurd trivial ht | exact Bool.noConfusion ht) | (with_reducible (refine k_ret ?_; repeat first | refine kzt ?_ | refine kzb ?_ | refine fin ?_)) | (with_reducible (refine kzx ?_; repeat first | refine thru ?_ | refine kzo ?_ | refine pass (by decide) ?_)) | ((first | refine post1 ?_ | refine post2 ?_ | refine post3 ?_); simp only [GA, simprocAttr]) | refine post0 ?_
    have f1 : (il (b.take k)).length = k := by rw [il_len, List.length_take]; omega
    have f2 : (il (b.drop (k + 1))).length = b.length - (k + 1) := by rw [il_len, List.length_drop]
    have o1 : (il (b.take k)).all AV.one = true := il_one _
    have o2 : (il (b.drop (k + 1))).all AV.one = true := il_one _
    have ee : il (b.eraseIdx k) = il (b.take k) ++ il (b.drop (k + 1)) := by rw [List.eraseIdx_eq_take_drop_succ]; simp [il]
    have el : (b.eraseIdx k).length = k + (b.length - (k + 1)) := by rw [List.length_eraseIdx_of_lt klt]; omega
    have wk : IntKind.i64.wrap ((k : Int) + 1) = ((k + 1 : Nat) : Int) := by rw [wrap64 (by omega) (by omega)]; omega
    unfold vi at qc
    rw [ee, el] at qc
    refine w_hp (fun h => h.m 1 = some (.cells true (e5 d))) (by simp (disch := omega) only [hm1, RG7, EVA, plug, eq_self, simprocAttr] <;> rfl) fun hp m1 ok pos => ?_
    have l1 := ok.m m1
    refine k_headP2 [4] [0] (fun k hk => ?_) (fun p i h1 h2 h3 h4 h5 => ?_) ?_
    ·rcases k with _ | _ | _ | _ | _ | _ | _ | _ | _ | k
     ·exact ⟨4, _, _, by omega, by omega, rfl, rfl, rfl⟩
     ·exact ⟨3, _, _, by omega, by omega, rfl, rfl, rfl⟩
     ·exact ⟨3, _, _, by omega, by omega, rfl, rfl, rfl⟩
     ·exact ⟨4, _, _, by omega, by omega, rfl, rfl, rfl⟩
     ·exact ⟨9, _, _, by omega, by omega, rfl, rfl, rfl⟩
     ·exact ⟨8, _, _, by omega, by omega, rfl, rfl, rfl⟩
     ·exact ⟨7, _, _, by omega, by omega, rfl, rfl, rfl⟩
     ·exact ⟨8, _, _, by omega, by omega, rfl, rfl, rfl⟩
     ·exact ⟨9, _, _, by omega, by omega, rfl, rfl, rfl⟩
     ·omega
    ·simp only [List.contains_cons, List.contains_nil, Bool.or_false, beq_iff_eq] at h3 h4
     omega
    simp only [c7r11, List.take_succ_cons, List.take_zero, List.drop_succ_cons, List.drop_zero, List.length_cons, List.length_nil, Nat.reduceAdd]
    refine lp_lit (v := .sl 0 0 0 1) rfl (by decide) rfl (by decide) rfl rfl ?_
    refine lp_val rfl rfl (by simp (disch := omega) only [RG7, EVA, plug, eq_self, simprocAttr]; with_reducible rfl) ?_
    refine lp_val rfl rfl (by simp (disch := omega) only [RG7, EVA, plug, eq_self, simprocAttr]; with_reducible rfl) ?_
    refine lp_val rfl rfl (by simp (disch := omega) only [RG7, EVA, plug, eq_self, simprocAttr]; with_reducible rfl) ?_
    refine lp_app rfl (by simp (disch := omega) only [f1, o1, RG7, EVA, plug, eq_self, simprocAttr] <;> rfl) (fun t c ht => by
     have lt := ok.m ht
     have e1 : ¬ t = hp.nx + 4 := by omega
     simp (disch := omega) only [e1, ht, RG7, EVA, plug, eq_self, simprocAttr]) (fun e he => by
     have n1 : hp.m (hp.nx + e) = none := by
      cases q : hp.m (hp.nx + e) with
      | none => rfl
      | some c => have := ok.m q; omega
     simp only [List.mem_cons, List.not_mem_nil, or_false] at he
     have e1 : ¬ hp.nx + e = hp.nx + 4 := by omega
     simp (disch := omega) only [e1, n1, RG7, EVA, plug, eq_self, simprocAttr]) ?_
    refine lp_val rfl rfl (by simp (disch := omega) only [RG7, EVA, plug, eq_self, simprocAttr]; with_reducible rfl) ?_
    refine lp_val rfl rfl (by simp (disch := omega) only [RG7, EVA, plug, eq_self, simprocAttr]; with_reducible rfl) ?_
    refine lp_val rfl rfl (by simp (disch := omega) only [wk, RG7, EVA, plug, eq_self, simprocAttr]; with_reducible rfl) ?_
    refine lp_val rfl rfl (by simp (disch := omega) only [RG7, EVA, plug, eq_self, simprocAttr]; with_reducible rfl) ?_
    refine lp_done ?_
    refine s_go (by simp (disch := omega) only [f1, f2, o2, RG7, EVA, plug, eq_self, simprocAttr]; with_reducible rfl) ?_
    refine r_done ?_
    have a0 : ¬ 1 = hp.nx + 4 := by omega
    have a1 : ¬ 1 = hp.nx + 9 := by omega
    repeat' first | (with_reducible first | refine kzq ?_ | refine kzs ?_ | refine kzS ?_ | refine kzR ?_ | refine kzC ?_ | refine kzH ?_ | refine kzB ?_ | refine kzK ?_ | refine kzE ?_ | refine kzg ?_) | with_reducible refine k_head (by with_unfolding_all rfl) ?_ | with_reducible refine k_headS ?_ | (with_reducible refine SepK.mk ?_ ?_; (refine sepQ_P ?_; simp [sepQ, sepG, AOp.late, AOp.free, AOp.xs, AOp.isAl, tokNe, AV.tok, stS_get, strip, AX.val, RG7, GA]; try omega)) | with_reducible refine r_done ?_ | with_reducible refine hr_done ?_ | with_reducible refine s_go (by simp (disch := omega) only [RG7, EVA, plug, eq_self, simprocAttr]; with_reducible rfl) ?_ | with_reducible refine h_go (by with_unfolding_all rfl) (by simp (disch := omega) only [RG7, EVA, plug, eq_self, simprocAttr]; with_reducible rfl) ?_ | ((with_reducible refine kzr ?_); refine zrF ?_) | ((with_reducible refine kzh ?_); refine zhF ?_) | ((with_reducible refine kzr ?_); refine zrP (c := by first | ((refine PC.at qc rfl ?F; case F => (refine .cons (.same (fleZ_plain _)) (.cons (.same (fleH_plain _)) (.cons (.row (by simp (disch := omega) only [RG7, EVA, plug, eq_self, simprocAttr] <;> rfl) (by rw [← ee]; exact il_plain _)) .nil)))); all_goals fail)) (k := ?_)) | ((with_reducible refine kzh ?_); refine zhP (c := by first | ((refine PC.at qc rfl ?F; case F => (refine .cons (.same (fleZ_plain _)) (.cons (.same (fleH_plain _)) (.cons (.row (by simp (disch := omega) only [RG7, EVA, plug, eq_self, simprocAttr] <;> rfl) (by rw [← ee]; exact il_plain _)) .nil)))); all_goals fail)) (k := ?_)) | ((with_reducible refine kzh ?_); refine zhQ (c := by first | ((refine PC.at qc rfl ?F; case F => (refine .cons (.same (fleZ_plain _)) (.cons (.same (fleH_plain _)) (.cons (.row (by simp (disch := omega) only [RG7, EVA, plug, eq_self, simprocAttr] <;> rfl) (by rw [← ee]; exact il_plain _)) .nil)))); all_goals fail)) (k := ?_)) | ((with_reducible refine kzr ?_); refine zrG (c := by intro hg; (try simp only [BO] at hg); first | ((refine PC.at qc rfl ?F; case F => (refine .cons (.same (fleZ_plain _)) (.cons (.same (fleH_plain _)) (.cons (.row (by simp (disch := omega) only [RG7, EVA, plug, eq_self, simprocAttr] <;> rfl) (by rw [← ee]; exact il_plain _)) .nil)))); all_goals fail)) (k := ?_)) | ((with_reducible refine kzh ?_); refine zhG (c := by intro hg; (try simp only [BO] at hg); first | ((refine PC.at qc rfl ?F; case F => (refine .cons (.same (fleZ_plain _)) (.cons (.same (fleH_plain _)) (.cons (.row (by simp (disch := omega) only [RG7, EVA, plug, eq_self, simprocAttr] <;> rfl) (by rw [← ee]; exact il_plain _)) .nil)))); all_goals fail)) (k := ?_)) | ((with_reducible refine kzh ?_); refine hr_app (by simp (disch := omega) only [RG7, EVA, plug, eq_self, simprocAttr]; with_reducible rfl) rfl ?_) | (with_reducible refine zkP (fun ht => ?_) (fun ht => ?_) <;> try first | exact False.elim ht | exact absurd rfl ht | exact absurd trivial ht | exact Bool.noConfusion ht) | (with_reducible (refine k_ret ?_; repeat first | refine kzt ?_ | refine kzb ?_ | refine fin ?_)) | (with_reducible (refine kzx ?_; repeat first | refine thru ?_ | refine kzo ?_ | refine pass (by decide) ?_)) | ((first | refine post1 ?_ | refine post2 ?_ | refine post3 ?_); simp only [GA, simprocAttr]) | refine post0 ?_
    exact ⟨klt, (), (by simp only [Am.keep, ZK, simprocAttr]; try rfl), by simp (disch := omega) only [m1, a0, a1, RG7, EVA, plug, eq_self, simprocAttr]⟩
   ·obtain rfl : k = b.length := by omega
    have klt' : ¬ (b.length : Int) < b.length := by omega
    repeat' first | (with_reducible first | refine kzq ?_ | refine kzs ?_ | refine kzS ?_ | refine kzR ?_ | refine kzC ?_ | refine kzH ?_ | refine kzB ?_ | refine kzK ?_ | refine kzE ?_ | refine kzg ?_) | with_reducible refine k_head (by with_unfolding_all rfl) ?_ | with_reducible refine k_headS ?_ | (with_reducible refine SepK.mk ?_ ?_; (refine sepQ_P ?_; simp [sepQ, sepG, AOp.late, AOp.free, AOp.xs, AOp.isAl, tokNe, AV.tok, stS_get, strip, AX.val, RG7, GA]; try omega)) | with_reducible refine r_done ?_ | with_reducible refine hr_done ?_ | with_reducible refine s_go (by simp (disch := omega) only [klt', RG7, EVA, plug, eq_self, simprocAttr]; with_reducible rfl) ?_ | with_reducible refine h_go (by with_unfolding_all rfl) (by simp (disch := omega) only [klt', RG7, EVA, plug, eq_self, simprocAttr]; with_reducible rfl) ?_ | ((with_reducible refine kzr ?_); refine zrF ?_) | ((with_reducible refine kzh ?_); refine zhF ?_) | ((with_reducible refine kzh ?_); refine hr_app (by simp (disch := omega) only [klt', RG7, EVA, plug, eq_self, simprocAttr]; with_reducible rfl) rfl ?_) | (with_reducible refine zkP (fun ht => ?_) (fun ht => ?_) <;> try first | exact False.elim ht | exact absurd rfl ht | exact absurd trivial ht | exact Bool.noConfusion ht) | (with_reducible (refine k_ret ?_; repeat first | refine kzt ?_ | refine kzb ?_ | refine fin ?_)) | (with_reducible (refine kzx ?_; repeat first | refine thru ?_ | refine kzo ?_ | refine pass (by decide) ?_)) | ((first | refine post1 ?_ | refine post2 ?_ | refine post3 ?_); simp only [GA, simprocAttr]) | refine post0 ?_
    refine k_blk (k_loopS (X := Unit) [0, 1, 4, 8, 11, 74, 75, 76] m.length (fun k _ => [(0, vZ l), (1, vH m), (4, .i .i64 n), (8, .p 1 0), (11, vi b), (74, vH m), (75, .i .i64 m.length), (76, .i .i64 (k : Int))]) (fun k _ h => h.m 1 = some (.cells true (e5 d))) () (by simp only [Am.keep, ZK, simprocAttr]; try rfl) (by simp (disch := omega) only [hm1, RG7, EVA, plug, eq_self, simprocAttr] <;> rfl) ?_)
    rintro k _ h hk hm1 ok pos
    have l1 := ok.m hm1
    have m1 : ¬ (1 : Nat) = h.nx + 1 + 2 := by omega
    by_cases klt2 : k < m.length
    ·have klt2' : (k : Int) < m.length := by omega
     have rJ := rdH klt2
     obtain ⟨j, j1, j2, j3, j4⟩ := co k klt2
     have q15 := d15 l (hD m k) hl
     rw [j2] at q15
     have q26 := d26 l (hD m k) j (chk_ok ck).1 (M.2.1 k klt2) j1 j3 j4
     have j0' := eq_false (show ¬ (j : Int) < 0 by omega)
     have j1' := eq_true (show (j : Int) < l.length by omega)
     have j2' := eq_false (show ¬ (l.length : Int) ≤ j by omega)
     repeat' first | (with_reducible first | refine kzq ?_ | refine kzs ?_ | refine kzS ?_ | refine kzR ?_ | refine kzC ?_ | refine kzH ?_ | refine kzB ?_ | refine kzK ?_ | refine kzE ?_ | refine kzg ?_) | with_reducible refine k_head (by with_unfolding_all rfl) ?_ | with_reducible refine k_headS ?_ | (with_reducible refine SepK.mk ?_ ?_; (refine sepQ_P ?_; simp [sepQ, sepG, AOp.late, AOp.free, AOp.xs, AOp.isAl, tokNe, AV.tok, stS_get, strip, AX.val, RG7, GA]; try omega)) | with_reducible refine r_done ?_ | with_reducible refine hr_done ?_ | with_reducible refine s_go (by simp (disch := omega) only [klt2', rJ, eH_rd, j0', j1', j2', RG7, EVA, plug, eq_self, simprocAttr]; with_reducible rfl) ?_ | with_reducible refine h_go (by with_unfolding_all rfl) (by simp (disch := omega) only [klt2', rJ, eH_rd, j0', j1', j2', RG7, EVA, plug, eq_self, simprocAttr]; with_reducible rfl) ?_ | ((with_reducible refine kzr ?_); refine zrF ?_) | ((with_reducible refine kzh ?_); refine zhF ?_) | ((with_reducible refine kzr ?_); refine zrP (c := by first | exact q15 _ | exact q26 _) (k := ?_)) | ((with_reducible refine kzh ?_); refine zhP (c := by first | exact q15 _ | exact q26 _) (k := ?_)) | ((with_reducible refine kzh ?_); refine zhQ (c := by first | exact q15 _ | exact q26 _) (k := ?_)) | ((with_reducible refine kzr ?_); refine zrG (c := by intro hg; (try simp only [BO] at hg); first | exact q15 _ | exact q26 _) (k := ?_)) | ((with_reducible refine kzh ?_); refine zhG (c := by intro hg; (try simp only [BO] at hg); first | exact q15 _ | exact q26 _) (k := ?_)) | ((with_reducible refine kzh ?_); refine hr_app (by simp (disch := omega) only [klt2', rJ, eH_rd, j0', j1', j2', RG7, EVA, plug, eq_self, simprocAttr]; with_reducible rfl) rfl ?_) | (with_reducible refine zkP (fun ht => ?_) (fun ht => ?_) <;> try first | exact False.elim ht | exact absurd rfl ht | exact absurd trivial ht | exact Bool.noConfusion ht) | (with_reducible (refine k_ret ?_; repeat first | refine kzt ?_ | refine kzb ?_ | refine fin ?_)) | (with_reducible (refine kzx ?_; repeat first | refine thru ?_ | refine kzo ?_ | refine pass (by decide) ?_)) | ((first | refine post1 ?_ | refine post2 ?_ | refine post3 ?_); simp only [GA, simprocAttr]) | refine post0 ?_
     exact ⟨klt2, (), (by simp only [Am.keep, ZK, simprocAttr]; try rfl), by simp (disch := omega) only [hm1, m1, RG7, EVA, plug, eq_self, simprocAttr]⟩
    ·obtain rfl : k = m.length := by omega
     have klt2' : ¬ (m.length : Int) < m.length := by omega
     repeat' first | (with_reducible first | refine kzq ?_ | refine kzs ?_ | refine kzS ?_ | refine kzR ?_ | refine kzC ?_ | refine kzH ?_ | refine kzB ?_ | refine kzK ?_ | refine kzE ?_ | refine kzg ?_) | with_reducible refine k_head (by with_unfolding_all rfl) ?_ | with_reducible refine k_headS ?_ | (with_reducible refine SepK.mk ?_ ?_; (refine sepQ_P ?_; simp [sepQ, sepG, AOp.late, AOp.free, AOp.xs, AOp.isAl, tokNe, AV.tok, stS_get, strip, AX.val, RG7, GA]; try omega)) | with_reducible refine r_done ?_ | with_reducible refine hr_done ?_ | with_reducible refine s_go (by simp (disch := omega) only [klt2', e5_rd, hm1, row_m hm1, read_row (row_m hm1), RG7, EVA, plug, eq_self, simprocAttr]; with_reducible rfl) ?_ | with_reducible refine h_go (by with_unfolding_all rfl) (by simp (disch := omega) only [klt2', e5_rd, hm1, row_m hm1, read_row (row_m hm1), RG7, EVA, plug, eq_self, simprocAttr]; with_reducible rfl) ?_ | ((with_reducible refine kzr ?_); refine zrF ?_) | ((with_reducible refine kzh ?_); refine zhF ?_) | ((with_reducible refine kzr ?_); refine zrP (c := by first | exact q5 _ | exact q2 _) (k := ?_)) | ((with_reducible refine kzh ?_); refine zhP (c := by first | exact q5 _ | exact q2 _) (k := ?_)) | ((with_reducible refine kzh ?_); refine zhQ (c := by first | exact q5 _ | exact q2 _) (k := ?_)) | ((with_reducible refine kzr ?_); refine zrG (c := by intro hg; (try simp only [BO] at hg); first | exact q5 _ | exact q2 _) (k := ?_)) | ((with_reducible refine kzh ?_); refine zhG (c := by intro hg; (try simp only [BO] at hg); first | exact q5 _ | exact q2 _) (k := ?_)) | ((with_reducible refine kzh ?_); refine hr_app (by simp (disch := omega) only [klt2', e5_rd, hm1, row_m hm1, read_row (row_m hm1), RG7, EVA, plug, eq_self, simprocAttr]; with_reducible rfl) rfl ?_) | (with_reducible refine zkP (fun ht => ?_) (fun ht => ?_) <;> try first | exact False.elim ht | exact absurd rfl ht | exact absurd trivial ht | exact Bool.noConfusion ht) | (with_reducible (refine k_ret ?_; repeat first | refine kzt ?_ | refine kzb ?_ | refine fin ?_)) | (with_reducible (refine kzx ?_; repeat first | refine thru ?_ | refine kzo ?_ | refine pass (by decide) ?_)) | ((first | refine post1 ?_ | refine post2 ?_ | refine post3 ?_); simp only [GA, simprocAttr]) | refine post0 ?_
     all_goals first | exact ends_of | exact ends_eq rfl
  ·have e0' := eq_false e0
   generalize (cvrR l m).1 = b at *
   generalize (cvrR l m).2 = e at *
   refine pc_fn fn7 (by simp only [AV.plains, AV.plain, il_plain, bl_plain, Bool.and_true, Bool.true_and, Bool.and_self, fleZ_plain, fleH_plain]) (by simp only [AV.plains, AV.plain, il_plain, bl_plain, Bool.and_true, Bool.true_and, Bool.and_self, fleZ_plain, fleH_plain]) (Nat.le_of_ble_eq_true rfl) ?_
   rw [initSt5]
   repeat' first | (with_reducible first | refine kzq ?_ | refine kzs ?_ | refine kzS ?_ | refine kzR ?_ | refine kzC ?_ | refine kzH ?_ | refine kzB ?_ | refine kzK ?_ | refine kzE ?_ | refine kzg ?_) | with_reducible refine k_head (by with_unfolding_all rfl) ?_ | with_reducible refine k_headS ?_ | (with_reducible refine SepK.mk ?_ ?_; (refine sepQ_P ?_; simp [sepQ, sepG, AOp.late, AOp.free, AOp.xs, AOp.isAl, tokNe, AV.tok, stS_get, strip, AX.val, RG7, GA]; try omega)) | with_reducible refine r_done ?_ | with_reducible refine hr_done ?_ | with_reducible refine s_go (by simp (disch := omega) only [w0', w1', e0', RG7, EVA, plug, eq_self, simprocAttr]; with_reducible rfl) ?_ | with_reducible refine h_go (by with_unfolding_all rfl) (by simp (disch := omega) only [w0', w1', e0', RG7, EVA, plug, eq_self, simprocAttr]; with_reducible rfl) ?_ | ((with_reducible refine kzr ?_); refine zrF ?_) | ((with_reducible refine kzh ?_); refine zhF ?_) | ((with_reducible refine kzr ?_); refine zrP (c := by first | exact q1 _ | exact q3 _ | exact q4 _ | exact q2 _) (k := ?_)) | ((with_reducible refine kzh ?_); refine zhP (c := by first | exact q1 _ | exact q3 _ | exact q4 _ | exact q2 _) (k := ?_)) | ((with_reducible refine kzh ?_); refine zhQ (c := by first | exact q1 _ | exact q3 _ | exact q4 _ | exact q2 _) (k := ?_)) | ((with_reducible refine kzr ?_); refine zrG (c := by intro hg; (try simp only [BO] at hg); first | exact q1 _ | exact q3 _ | exact q4 _ | exact q2 _) (k := ?_)) | ((with_reducible refine kzh ?_); refine zhG (c := by intro hg; (try simp only [BO] at hg); first | exact q1 _ | exact q3 _ | exact q4 _ | exact q2 _) (k := ?_)) | ((with_reducible refine kzh ?_); refine hr_app (by simp (disch := omega) only [w0', w1', e0', RG7, EVA, plug, eq_self, simprocAttr]; with_reducible rfl) rfl ?_) | (with_reducible refine zkP (fun ht => ?_) (fun ht => ?_) <;> try first | exact False.elim ht | exact absurd rfl ht | exact absurd trivial ht | exact Bool.noConfusion ht) | (with_reducible (refine k_ret ?_; repeat first | refine kzt ?_ | refine kzb ?_ | refine fin ?_)) | (with_reducible (refine kzx ?_; repeat first | refine thru ?_ | refine kzo ?_ | refine pass (by decide) ?_)) | ((first | refine post1 ?_ | refine post2 ?_ | refine post3 ?_); simp only [GA, simprocAttr]) | refine post0 ?_
   all_goals first | exact ends_of | exact ends_eq rfl
 ·refine pc_fn fn7 (by simp only [AV.plains, AV.plain, il_plain, bl_plain, Bool.and_true, Bool.true_and, Bool.and_self, fleZ_plain, fleH_plain]) (by simp only [AV.plains, AV.plain, il_plain, bl_plain, Bool.and_true, Bool.true_and, Bool.and_self, fleZ_plain, fleH_plain]) (Nat.le_of_ble_eq_true rfl) ?_
  rw [initSt5]
  cases c : hdsOk m with
  | false =>
    rw [c] at q1
    repeat' first | (with_reducible first | refine kzq ?_ | refine kzs ?_ | refine kzS ?_ | refine kzR ?_ | refine kzC ?_ | refine kzH ?_ | refine kzB ?_ | refine kzK ?_ | refine kzE ?_ | refine kzg ?_) | with_reducible refine k_head (by with_unfolding_all rfl) ?_ | with_reducible refine k_headS ?_ | (with_reducible refine SepK.mk ?_ ?_; (refine sepQ_P ?_; simp [sepQ, sepG, AOp.late, AOp.free, AOp.xs, AOp.isAl, tokNe, AV.tok, stS_get, strip, AX.val, RG7, GA]; try omega)) | with_reducible refine r_done ?_ | with_reducible refine hr_done ?_ | with_reducible refine s_go (by simp (disch := omega) only [RG7, EVA, plug, eq_self, simprocAttr]; with_reducible rfl) ?_ | with_reducible refine h_go (by with_unfolding_all rfl) (by simp (disch := omega) only [RG7, EVA, plug, eq_self, simprocAttr]; with_reducible rfl) ?_ | ((with_reducible refine kzr ?_); refine zrF ?_) | ((with_reducible refine kzh ?_); refine zhF ?_) | ((with_reducible refine kzr ?_); refine zrP (c := by first | exact q1 _ | exact q2 _) (k := ?_)) | ((with_reducible refine kzh ?_); refine zhP (c := by first | exact q1 _ | exact q2 _) (k := ?_)) | ((with_reducible refine kzh ?_); refine zhQ (c := by first | exact q1 _ | exact q2 _) (k := ?_)) | ((with_reducible refine kzr ?_); refine zrG (c := by intro hg; (try simp only [BO] at hg); first | exact q1 _ | exact q2 _) (k := ?_)) | ((with_reducible refine kzh ?_); refine zhG (c := by intro hg; (try simp only [BO] at hg); first | exact q1 _ | exact q2 _) (k := ?_)) | ((with_reducible refine kzh ?_); refine hr_app (by simp (disch := omega) only [RG7, EVA, plug, eq_self, simprocAttr]; with_reducible rfl) rfl ?_) | (with_reducible refine zkP (fun ht => ?_) (fun ht => ?_) <;> try first | exact False.elim ht | exact absurd rfl ht | exact absurd trivial ht | exact Bool.noConfusion ht) | (with_reducible (refine k_ret ?_; repeat first | refine kzt ?_ | refine kzb ?_ | refine fin ?_)) | (with_reducible (refine kzx ?_; repeat first | refine thru ?_ | refine kzo ?_ | refine pass (by decide) ?_)) | ((first | refine post1 ?_ | refine post2 ?_ | refine post3 ?_); simp only [GA, simprocAttr]) | refine post0 ?_
    all_goals first | exact ends_of | exact ends_eq rfl
  | true =>
    rw [c] at q1
    by_cases a0 : w < 0
    ·have a0' := eq_true a0
     repeat' first | (with_reducible first | refine kzq ?_ | refine kzs ?_ | refine kzS ?_ | refine kzR ?_ | refine kzC ?_ | refine kzH ?_ | refine kzB ?_ | refine kzK ?_ | refine kzE ?_ | refine kzg ?_) | with_reducible refine k_head (by with_unfolding_all rfl) ?_ | with_reducible refine k_headS ?_ | (with_reducible refine SepK.mk ?_ ?_; (refine sepQ_P ?_; simp [sepQ, sepG, AOp.late, AOp.free, AOp.xs, AOp.isAl, tokNe, AV.tok, stS_get, strip, AX.val, RG7, GA]; try omega)) | with_reducible refine r_done ?_ | with_reducible refine hr_done ?_ | with_reducible refine s_go (by simp (disch := omega) only [a0', RG7, EVA, plug, eq_self, simprocAttr]; with_reducible rfl) ?_ | with_reducible refine h_go (by with_unfolding_all rfl) (by simp (disch := omega) only [a0', RG7, EVA, plug, eq_self, simprocAttr]; with_reducible rfl) ?_ | ((with_reducible refine kzr ?_); refine zrF ?_) | ((with_reducible refine kzh ?_); refine zhF ?_) | ((with_reducible refine kzr ?_); refine zrP (c := by first | exact q1 _ | exact q2 _) (k := ?_)) | ((with_reducible refine kzh ?_); refine zhP (c := by first | exact q1 _ | exact q2 _) (k := ?_)) | ((with_reducible refine kzh ?_); refine zhQ (c := by first | exact q1 _ | exact q2 _) (k := ?_)) | ((with_reducible refine kzr ?_); refine zrG (c := by intro hg; (try simp only [BO] at hg); first | exact q1 _ | exact q2 _) (k := ?_)) | ((with_reducible refine kzh ?_); refine zhG (c := by intro hg; (try simp only [BO] at hg); first | exact q1 _ | exact q2 _) (k := ?_)) | ((with_reducible refine kzh ?_); refine hr_app (by simp (disch := omega) only [a0', RG7, EVA, plug, eq_self, simprocAttr]; with_reducible rfl) rfl ?_) | (with_reducible refine zkP (fun ht => ?_) (fun ht => ?_) <;> try first | exact False.elim ht | exact absurd rfl ht | exact absurd trivial ht | exact Bool.noConfusion ht) | (with_reducible (refine k_ret ?_; repeat first | refine kzt ?_ | refine kzb ?_ | refine fin ?_)) | (with_reducible (refine kzx ?_; repeat first | refine thru ?_ | refine kzo ?_ | refine pass (by decide) ?_)) | ((first | refine post1 ?_ | refine post2 ?_ | refine post3 ?_); simp only [GA, simprocAttr]) | refine post0 ?_
     all_goals first | exact ends_of | exact ends_eq rfl
    ·have a0' := eq_false a0
     have a1' := eq_true (show 3000 < w from Classical.byContradiction fun q => ok0 ⟨c, by omega, by omega⟩)
     repeat' first | (with_reducible first | refine kzq ?_ | refine kzs ?_ | refine kzS ?_ | refine kzR ?_ | refine kzC ?_ | refine kzH ?_ | refine kzB ?_ | refine kzK ?_ | refine kzE ?_ | refine kzg ?_) | with_reducible refine k_head (by with_unfolding_all rfl) ?_ | with_reducible refine k_headS ?_ | (with_reducible refine SepK.mk ?_ ?_; (refine sepQ_P ?_; simp [sepQ, sepG, AOp.late, AOp.free, AOp.xs, AOp.isAl, tokNe, AV.tok, stS_get, strip, AX.val, RG7, GA]; try omega)) | with_reducible refine r_done ?_ | with_reducible refine hr_done ?_ | with_reducible refine s_go (by simp (disch := omega) only [a0', a1', RG7, EVA, plug, eq_self, simprocAttr]; with_reducible rfl) ?_ | with_reducible refine h_go (by with_unfolding_all rfl) (by simp (disch := omega) only [a0', a1', RG7, EVA, plug, eq_self, simprocAttr]; with_reducible rfl) ?_ | ((with_reducible refine kzr ?_); refine zrF ?_) | ((with_reducible refine kzh ?_); refine zhF ?_) | ((with_reducible refine kzr ?_); refine zrP (c := by first | exact q1 _ | exact q2 _) (k := ?_)) | ((with_reducible refine kzh ?_); refine zhP (c := by first | exact q1 _ | exact q2 _) (k := ?_)) | ((with_reducible refine kzh ?_); refine zhQ (c := by first | exact q1 _ | exact q2 _) (k := ?_)) | ((with_reducible refine kzr ?_); refine zrG (c := by intro hg; (try simp only [BO] at hg); first | exact q1 _ | exact q2 _) (k := ?_)) | ((with_reducible refine kzh ?_); refine zhG (c := by intro hg; (try simp only [BO] at hg); first | exact q1 _ | exact q2 _) (k := ?_)) | ((with_reducible refine kzh ?_); refine hr_app (by simp (disch := omega) only [a0', a1', RG7, EVA, plug, eq_self, simprocAttr]; with_reducible rfl) rfl ?_) | (with_reducible refine zkP (fun ht => ?_) (fun ht => ?_) <;> try first | exact False.elim ht | exact absurd rfl ht | exact absurd trivial ht | exact Bool.noConfusion ht) | (with_reducible (refine k_ret ?_; repeat first | refine kzt ?_ | refine kzb ?_ | refine fin ?_)) | (with_reducible (refine kzx ?_; repeat first | refine thru ?_ | refine kzo ?_ | refine pass (by decide) ?_)) | ((first | refine post1 ?_ | refine post2 ?_ | refine post3 ?_); simp only [GA, simprocAttr]) | refine post0 ?_
     all_goals first | exact ends_of | exact ends_eq rfl
theorem d7' (l : List Sz) (hl : l.length ≤ 9223372036854775807) (m : List Hd) (hm : m.length ≤ 9223372036854775807) (w : Int) (hw : -9223372036854775808 ≤ w ∧ w ≤ 9223372036854775807) (d : Nat → Int) (n : Int) (hn : -9223372036854775808 ≤ n ∧ n ≤ 9223372036854775807) : PC Tryd.prog 7 [.vs l.length (fl eZ l), .vs m.length (fl eH m), .i .i64 w, .ag (e5 d), .i .i64 n] (.b true) := d7 l m w d n hl hm
end Go.Proofs.YtjaihaccehaicaaDoor
set_option linter.unusedVariables false
set_option linter.unusedSimpArgs false
namespace Go.Proofs.YtjaihaccehaicaaDoor
open Go Go.Am Go.Proofs
theorem mapM_get {α β : Type} {f : α → Option β} : ∀ {xs : List α} {ys : List β}, xs.mapM f = some ys → ∀ (i : Nat) x, xs[i]? = some x → ∃ y, f x = some y ∧ ys[i]? = some y
 | [], ys, h, i, x, hx => by simp at hx
 | a :: xs, ys, h, i, x, hx => by
   simp only [List.mapM_cons, Option.pure_def, Option.bind_eq_bind, Option.bind_eq_some_iff, Option.some.injEq] at h
   obtain ⟨y, hy, zs, hz, rfl⟩ := h
   cases i with
   | zero => simp at hx; subst hx; exact ⟨y, hy, rfl⟩
   | succ i => simp at hx; exact mapM_get hz i x hx
theorem int_of_trod {H : Type} {enc : TypeId × Value → H} {P : Program} {w : World} {base : Nat} {sp : Nat → Bool} {held : Bool} {fuel : Nat} {t : TypeId} {k : IntKind} {c : Value} {y : DataW H × List MemPlace}
 (ht : P.underlying t = some (.int k)) (h : DataW.trod enc P w base sp held fuel t [c] = some y) : ∃ n, c = .int k n ∧ y = (.lit (.int k n), []) := by
 cases fuel with
 | zero => simp [DataW.trod] at h
 | succ fuel =>
   cases c <;> simp [DataW.trod, ht] at h
   rename_i k' n
   obtain ⟨⟨rfl, _⟩, rfl⟩ := h
   exact ⟨n, rfl, rfl⟩
def litOf : Value → DataW Unit
 | .int k n => .lit (.int k n)
 | _ => .nil
theorem laid_lits : (Rows.laid_math_bits_deBruijn64tab : DataW Unit) = .agg (TABV.toList.map litOf) := rfl
theorem tabv_u8 : ∀ v ∈ TABV.toList, ∃ n, v = .int .u8 n := by
 intro v hv
 simp only [TABV, List.mem_cons, List.not_mem_nil, or_false] at hv
 rcases hv with rfl | hv
 ·exact ⟨_, rfl⟩
 repeat (rcases hv with rfl | hv; exact ⟨_, rfl⟩)
theorem g0 : Tryd.prog.globalNamed "math/bits.deBruijn64tab" = some 0 := by kernel_rfl
theorem gT : (Tryd.prog.globals[0]?).map (·.type) = some 106 := by kernel_rfl
theorem cells106 : Tryd.prog.cellsOf 106 = 64 := by kernel_rfl
theorem cells5 : Tryd.prog.cellsOf 5 = 1 := by kernel_rfl
theorem tab_of_laid {W : World} (h : laidMet Tryd.prog Rows.lastListsRow.laid W) : TabOK (φW W) := by
 obtain ⟨ps, ⟨g, t, cs, fuel, p, q, hg, ht, hvar, hd, _, _⟩, _⟩ := h
 obtain rfl := Option.some.inj (g0.symm.trans hg)
 obtain rfl := Option.some.inj (gT.symm.trans ht)
 have hcs : cs = TABV := by
  cases fuel with
  | zero => simp [DataW.trod] at hd
  | succ fuel =>
    simp only [DataW.trod, Tryd.underlying106, cells106, cells5] at hd
    split at hd
    ·rename_i hl
     simp only [Option.map_eq_some_iff] at hd
     obtain ⟨xs, hx, he⟩ := hd
     rw [laid_lits] at he
     have he := (Prod.mk.inj he).1
     simp only [DataW.agg.injEq] at he
     have hl' : cs.toList.length = 64 := by simpa using hl
     refine Array.toList_inj.1 (List.ext_getElem? fun i => ?_)
     by_cases hi : i < 64
     ·have hi' : i < cs.toList.length := by omega
      obtain ⟨y, hy, hyi⟩ := mapM_get hx i i (by rw [List.getElem?_range hi])
      have e1 : (cs.toList.drop (i * 1)).take 1 = [cs.toList[i]] := by
       rw [Nat.mul_one, List.drop_eq_getElem_cons hi', List.take_succ_cons, List.take_zero]
      rw [e1] at hy
      obtain ⟨n, hn, rfl⟩ := int_of_trod Tryd.underlying5 hy
      have ti : i < TABV.toList.length := hi
      have e2 := congrArg (fun l => l[i]?) he
      simp only [List.getElem?_map, hyi, Option.map_some, List.getElem?_eq_getElem ti, Option.some.injEq] at e2
      obtain ⟨m, hm⟩ := tabv_u8 _ (List.getElem_mem ti)
      rw [List.getElem?_eq_getElem hi', List.getElem?_eq_getElem ti, hn, hm]
      rw [hm] at e2
      simp only [litOf, DataW.lit.injEq, Lit.int.injEq, true_and] at e2
      rw [e2]
     ·rw [List.getElem?_eq_none (by omega), List.getElem?_eq_none (show TABV.toList.length ≤ i from Nat.le_of_not_lt hi)]
    ·cases hd
 intro b xs hb
 unfold TAB at hb
 split at hb
 ·rename_i e
  subst e
  cases hb
  unfold World.var? at hvar
  rw [g0] at hvar
  simp only [Option.bind_some] at hvar
  unfold φW
  split at hvar
  ·rename_i ys e fz hh
   cases hvar
   rw [hh, hcs]
  ·cases hvar
 ·cases hb
noncomputable def tabWorld (os : Os) : World :=
 let w0 := World.holding Tryd.prog os ⟨#[], #[], []⟩
 { w0 with heap := w0.heap.modify 0 fun
  | .cells _ t frozen => .cells TABV t frozen
  | o => o }
set_option maxRecDepth 100000 in
theorem laid_met (os : Os) (args : Array Value) : laidMet Tryd.prog Rows.lastListsRow.laid ((tabWorld os).forCall (fun _ _ => 0) ⟨#[], args, []⟩).memory :=
 laidMet_of_run (ps := (List.range 64).map fun i => .cell 0 i) 8 (by kernel_rfl) (by kernel_rfl) (by kernel_rfl)
end Go.Proofs.YtjaihaccehaicaaDoor
