/- What the proof of the law needs: the abstract machine, the functions as it reads them, their contracts, part 5. -/
import Derived.Test.YtjncfpfgobojpaaZd
import Derived.Shelf.Spec.SlicesGrow
set_option linter.unusedVariables false
set_option linter.unusedSimpArgs false
namespace Go.Proofs.Ytjncfpfgobojpaa
open Go Go.Am Go.Proofs Go.Sort
theorem pc113 (x : Int) : PC Try.prog 113 [.i .i64 x] (.b false) := by
  refine pc_fn fn113 (by simp only [AV.plains, AV.plain, il_plain, bl_plain, Bool.and_true, Bool.true_and, Bool.and_self]) (by simp only [AV.plains, AV.plain, il_plain, bl_plain, Bool.and_true, Bool.true_and, Bool.and_self]) (Nat.le_of_ble_eq_true rfl) ?_
  rw [initSt1]
  repeat' first | (with_reducible first | refine k_seq ?_ | refine k_skip ?_ | refine k_blkS ?_ | refine k_blkR ?_ | refine k_blkC ?_ | refine k_blkH ?_ | refine k_blkB ?_ | refine k_blkK ?_ | refine k_blkE ?_ | refine k_reg ?_) | with_reducible refine r_done ?_ | with_reducible refine s_go (by simp (disch := omega) only [c113r0, c113r1, EVA, plug, ite_same, decide_true, decide_false, eq_self, simprocAttr]; with_reducible rfl) ?_ | ((with_reducible refine chk_r ?_); refine r_callF (by simp only [CA, Nat.reduceEqDiff, ↓reduceIte]; rfl) (by exact rfl) (by simp only [CA, Nat.reduceEqDiff, ↓reduceIte]; rfl) rfl ?_) | (with_reducible refine k_condP (by simp only [GA, Nat.reduceEqDiff, ↓reduceIte]; rfl) (by first | (simp only [BO]; rfl) | rfl) (fun ht => ?_) (fun ht => ?_) <;> try (first | exact False.elim ht | exact absurd rfl ht | exact absurd trivial ht | exact Bool.noConfusion ht)) | (with_reducible refine k_ret ?_; repeat with_reducible (first | refine ret_thru ?_ | refine ret_blk ?_ | refine fin ?_)) | (with_reducible refine k_exit ?_; repeat with_reducible (first | refine thru ?_ | refine out_blk ?_ | refine pass (by decide) ?_)) | ((first | refine post1 ?_ | refine post2 ?_ | refine post3 ?_); simp only [GA, Nat.reduceEqDiff, ↓reduceIte]) | (refine postc (by simp only [GA, Nat.reduceEqDiff, ↓reduceIte]; rfl) (by simp (disch := omega) only [c113r0, c113r1, EVA, plug, ite_same, decide_true, decide_false, eq_self, simprocAttr]; rfl) ?_) | refine post0 ?_
  all_goals refine ends_eq (b_eq (by simp))
def cmpI (x y : Int) : Int := if x < y then -1 else if y < x then 1 else 0
theorem RG99 : (type_of% @c99r0.eq_1) ∧ (type_of% @c99r1.eq_1) ∧ (type_of% @c99r2.eq_1) ∧ (type_of% @c99r3.eq_1) ∧ (type_of% @c99r4.eq_1) ∧ (type_of% @c99r5.eq_1) ∧ (type_of% @c99r6.eq_1) ∧ (type_of% @c99r7.eq_1) ∧ (type_of% @c99r8.eq_1) ∧ (type_of% @c99r9.eq_1) ∧ (type_of% @c99r10.eq_1) ∧ (type_of% @c99r11.eq_1) ∧ (type_of% @c99r12.eq_1) ∧ (type_of% @c99r13.eq_1) := ⟨@c99r0.eq_1, @c99r1.eq_1, @c99r2.eq_1, @c99r3.eq_1, @c99r4.eq_1, @c99r5.eq_1, @c99r6.eq_1, @c99r7.eq_1, @c99r8.eq_1, @c99r9.eq_1, @c99r10.eq_1, @c99r11.eq_1, @c99r12.eq_1, @c99r13.eq_1⟩
theorem pc99 (x y : Int) : PC Try.prog 99 [.i .i64 x, .i .i64 y] (.i .i64 (cmpI x y)) := by
  refine pc_fn fn99 (by simp only [AV.plains, AV.plain, il_plain, bl_plain, Bool.and_true, Bool.true_and, Bool.and_self]) (by simp only [AV.plains, AV.plain, il_plain, bl_plain, Bool.and_true, Bool.true_and, Bool.and_self]) (Nat.le_of_ble_eq_true rfl) ?_
  rw [initSt2]
  repeat' first | (with_reducible first | refine k_seq ?_ | refine k_skip ?_ | refine k_blkS ?_ | refine k_blkR ?_ | refine k_blkC ?_ | refine k_blkH ?_ | refine k_blkB ?_ | refine k_blkK ?_ | refine k_blkE ?_ | refine k_reg ?_) | with_reducible refine r_done ?_ | with_reducible refine s_go (by simp (disch := omega) only [RG99, EVA, plug, ite_same, decide_true, decide_false, eq_self, simprocAttr]; with_reducible rfl) ?_ | ((with_reducible refine chk_r ?_); refine r_callF (by simp only [CA, Nat.reduceEqDiff, ↓reduceIte]; rfl) (by exact rfl) (by simp only [CA, Nat.reduceEqDiff, ↓reduceIte]; rfl) rfl ?_) | ((with_reducible refine chk_r ?_); refine r_callP (by simp only [CA, Nat.reduceEqDiff, ↓reduceIte]; rfl) (by simp only [CA, Nat.reduceEqDiff, ↓reduceIte]; rfl) (by first | exact pc113 _ _) rfl ?_) | (with_reducible refine k_condP (by simp only [GA, Nat.reduceEqDiff, ↓reduceIte]; rfl) (by first | (simp only [BO]; rfl) | rfl) (fun ht => ?_) (fun ht => ?_) <;> try (first | exact False.elim ht | exact absurd rfl ht | exact absurd trivial ht | exact Bool.noConfusion ht)) | (with_reducible refine k_ret ?_; repeat with_reducible (first | refine ret_thru ?_ | refine ret_blk ?_ | refine fin ?_)) | (with_reducible refine k_exit ?_; repeat with_reducible (first | refine thru ?_ | refine out_blk ?_ | refine pass (by decide) ?_)) | ((first | refine post1 ?_ | refine post2 ?_ | refine post3 ?_); simp only [GA, Nat.reduceEqDiff, ↓reduceIte]) | (refine postc (by simp only [GA, Nat.reduceEqDiff, ↓reduceIte]; rfl) (by simp (disch := omega) only [RG99, EVA, plug, ite_same, decide_true, decide_false, eq_self, simprocAttr]; rfl) ?_) | refine post0 ?_
  all_goals (refine ends_eq (i_eq ?_); unfold cmpI)
  · rw [if_pos (by assumption)]
  · rw [if_neg (by assumption), if_pos (by assumption)]
  · rw [if_neg (by assumption), if_neg (by assumption)]
def orI : List Int → Int
  | [] => 0
  | x :: l => if x ≠ 0 then x else orI l
theorem orI_drop {l : List Int} {k : Nat} (h : k < l.length) : orI (l.drop k) = if l.getD k 0 ≠ 0 then l.getD k 0 else orI (l.drop (k + 1)) := by
  rw [List.drop_eq_getElem_cons h]; simp [orI, h]
theorem RG98 : (type_of% @c98r0.eq_1) ∧ (type_of% @c98r1.eq_1) ∧ (type_of% @c98r2.eq_1) ∧ (type_of% @c98r3.eq_1) ∧ (type_of% @c98r4.eq_1) ∧ (type_of% @c98r5.eq_1) ∧ (type_of% @c98r6.eq_1) ∧ (type_of% @c98r7.eq_1) ∧ (type_of% @c98r9.eq_1) := ⟨@c98r0.eq_1, @c98r1.eq_1, @c98r2.eq_1, @c98r3.eq_1, @c98r4.eq_1, @c98r5.eq_1, @c98r6.eq_1, @c98r7.eq_1, @c98r9.eq_1⟩
theorem pc98 (l : List Int) (hl : l.length ≤ 9223372036854775807) : PC Try.prog 98 [vi l] (.i .i64 (orI l)) := by
  refine pc_fn fn98 (by simp only [AV.plains, AV.plain, il_plain, bl_plain, Bool.and_true, Bool.true_and, Bool.and_self]) (by simp only [AV.plains, AV.plain, il_plain, bl_plain, Bool.and_true, Bool.true_and, Bool.and_self]) (Nat.le_of_ble_eq_true rfl) ?_
  rw [initSt1]
  repeat' first | (with_reducible first | refine k_seq ?_ | refine k_skip ?_ | refine k_blkS ?_ | refine k_blkR ?_ | refine k_blkC ?_ | refine k_blkH ?_ | refine k_blkB ?_ | refine k_blkK ?_ | refine k_blkE ?_ | refine k_reg ?_) | with_reducible refine r_done ?_ | with_reducible refine s_go (by simp (disch := omega) only [RG98, EVA, plug, ite_same, decide_true, decide_false, eq_self, simprocAttr]; with_reducible rfl) ?_ | ((with_reducible refine chk_r ?_); refine r_callF (by simp only [CA, Nat.reduceEqDiff, ↓reduceIte]; rfl) (by exact rfl) (by simp only [CA, Nat.reduceEqDiff, ↓reduceIte]; rfl) rfl ?_) | (with_reducible refine k_condP (by simp only [GA, Nat.reduceEqDiff, ↓reduceIte]; rfl) (by first | (simp only [BO]; rfl) | rfl) (fun ht => ?_) (fun ht => ?_) <;> try (first | exact False.elim ht | exact absurd rfl ht | exact absurd trivial ht | exact Bool.noConfusion ht)) | (with_reducible refine k_ret ?_; repeat with_reducible (first | refine ret_thru ?_ | refine ret_blk ?_ | refine fin ?_)) | (with_reducible refine k_exit ?_; repeat with_reducible (first | refine thru ?_ | refine out_blk ?_ | refine pass (by decide) ?_)) | ((first | refine post1 ?_ | refine post2 ?_ | refine post3 ?_); simp only [GA, Nat.reduceEqDiff, ↓reduceIte]) | (refine postc (by simp only [GA, Nat.reduceEqDiff, ↓reduceIte]; rfl) (by simp (disch := omega) only [RG98, EVA, plug, ite_same, decide_true, decide_false, eq_self, simprocAttr]; rfl) ?_) | refine post0 ?_
  refine k_blk (k_loopS (X := Unit) [3, 6, 7, 8] l.length (fun k x => [(3, .i .i64 0), (6, vi l), (7, .i .i64 l.length), (8, .i .i64 (k : Int))]) (fun k x h => orI l = orI (l.drop k)) () (by simp only [Am.keep, List.map_cons, List.map_nil, GA, Nat.reduceEqDiff, ↓reduceIte]; try rfl) (by simp) ?_)
  rintro k ⟨⟩ h hk hv ok pos
  repeat' first | (with_reducible first | refine k_seq ?_ | refine k_skip ?_ | refine k_blkS ?_ | refine k_blkR ?_ | refine k_blkC ?_ | refine k_blkH ?_ | refine k_blkB ?_ | refine k_blkK ?_ | refine k_blkE ?_ | refine k_reg ?_) | with_reducible refine r_done ?_ | with_reducible refine s_go (by simp (disch := omega) only [RG98, EVA, plug, ite_same, decide_true, decide_false, eq_self, simprocAttr]; with_reducible rfl) ?_ | ((with_reducible refine chk_r ?_); refine r_callF (by simp only [CA, Nat.reduceEqDiff, ↓reduceIte]; rfl) (by exact rfl) (by simp only [CA, Nat.reduceEqDiff, ↓reduceIte]; rfl) rfl ?_) | (with_reducible refine k_condP (by simp only [GA, Nat.reduceEqDiff, ↓reduceIte]; rfl) (by first | (simp only [BO]; rfl) | rfl) (fun ht => ?_) (fun ht => ?_) <;> try (first | exact False.elim ht | exact absurd rfl ht | exact absurd trivial ht | exact Bool.noConfusion ht)) | (with_reducible refine k_ret ?_; repeat with_reducible (first | refine ret_thru ?_ | refine ret_blk ?_ | refine fin ?_)) | (with_reducible refine k_exit ?_; repeat with_reducible (first | refine thru ?_ | refine out_blk ?_ | refine pass (by decide) ?_)) | ((first | refine post1 ?_ | refine post2 ?_ | refine post3 ?_); simp only [GA, Nat.reduceEqDiff, ↓reduceIte]) | (refine postc (by simp only [GA, Nat.reduceEqDiff, ↓reduceIte]; rfl) (by simp (disch := omega) only [RG98, EVA, plug, ite_same, decide_true, decide_false, eq_self, simprocAttr]; rfl) ?_) | refine post0 ?_
  · rw [hv, orI_drop (by omega), if_pos (by assumption)]; exact ends_of
  · refine ⟨by omega, (), (by simp only [Am.keep, List.map_cons, List.map_nil, GA, Nat.reduceEqDiff, ↓reduceIte]; try rfl), ?_⟩
    rw [hv, orI_drop (by omega), if_neg (by assumption)]
  · rw [hv, show k = l.length by omega, List.drop_length]; exact ends_of
def cmpB (l : List B) (i k : Nat) : Int := orI [cmpI (bD l i).dark (bD l k).dark, cmpI (bD l i).grain (bD l k).grain, cmpI (bD l i).num (bD l k).num]
theorem pc97 (l : List B) (i k : Nat) (hi : i < l.length) (hk : k < l.length) : PC Try.prog 97 [.i .i64 i, .i .i64 k, .pv [vB l] 0] (.i .i64 (cmpB l i k)) := by
  refine pc_fn fn97 (by simp only [AV.plains, AV.plain, il_plain, bl_plain, Bool.and_true, Bool.true_and, Bool.and_self, flB_plain]) (by simp only [AV.plains, AV.plain, il_plain, bl_plain, Bool.and_true, Bool.true_and, Bool.and_self, flB_plain]) (Nat.le_of_ble_eq_true rfl) ?_
  rw [initSt3]
  have rA := rdB hi
  have rC := rdB hk
  simp only [eB] at rA rC
  have q := fun x y z => (pc98 [x, y, z] (by simp) : PC Try.prog 98 [.vs 3 [.i .i64 x, .i .i64 y, .i .i64 z]] _)
  have hi' : (i : Int) < l.length := by omega
  have hk' : (k : Int) < l.length := by omega
  repeat' first | (with_reducible first | refine k_seq ?_ | refine k_skip ?_ | refine k_blkS ?_ | refine k_blkR ?_ | refine k_blkC ?_ | refine k_blkH ?_ | refine k_blkB ?_ | refine k_blkK ?_ | refine k_blkE ?_ | refine k_reg ?_) | with_reducible refine k_head (by with_unfolding_all rfl) ?_ | with_reducible refine k_headS ?_ | (with_reducible refine SepK.mk ?_ ?_; (refine sepQ_P ?_; simp [sepQ, sepG, AOp.late, AOp.free, AOp.xs, AOp.isAl, tokNe, AV.tok, stS_get, strip, AX.val, c97r0, c97r1, c97r2, GA]; try omega)) | with_reducible refine r_done ?_ | with_reducible refine hr_done ?_ | with_reducible refine s_go (by simp (disch := omega) only [rA, rC, hi', hk', c97r0, c97r1, c97r2, EVA, plug, ite_same, decide_true, decide_false, eq_self, simprocAttr]; with_reducible rfl) ?_ | with_reducible refine h_go (by with_unfolding_all rfl) (by simp (disch := omega) only [rA, rC, hi', hk', c97r0, c97r1, c97r2, EVA, plug, ite_same, decide_true, decide_false, eq_self, simprocAttr]; with_reducible rfl) ?_ | ((with_reducible refine chk_r ?_); refine r_callF (by simp only [CA, Nat.reduceEqDiff, ↓reduceIte]; rfl) (by exact rfl) (by simp only [CA, Nat.reduceEqDiff, ↓reduceIte]; rfl) rfl ?_) | ((with_reducible refine chk_h ?_); refine hr_callF (by simp only [CA, Nat.reduceEqDiff, ↓reduceIte]; rfl) (by exact rfl) (by simp only [CA, Nat.reduceEqDiff, ↓reduceIte]; rfl) rfl ?_) | ((with_reducible refine chk_r ?_); refine r_callP (by simp only [CA, Nat.reduceEqDiff, ↓reduceIte]; rfl) (by simp only [CA, Nat.reduceEqDiff, ↓reduceIte]; rfl) (by first | exact pc99 _ _ _ | ((refine PC.at (q ?x ?y ?z) rfl ?F; case F => (refine .cons (.row (by simp (disch := omega) only [c97r0, c97r1, c97r2, EVA, plug, ite_same, decide_true, decide_false, eq_self, simprocAttr] <;> rfl) rfl) .nil)); all_goals fail)) rfl ?_) | ((with_reducible refine chk_h ?_); refine hr_callP (by simp only [CA, Nat.reduceEqDiff, ↓reduceIte]; rfl) (by simp only [CA, Nat.reduceEqDiff, ↓reduceIte]; rfl) (by first | exact pc99 _ _ _ | ((refine PC.at (q ?x ?y ?z) rfl ?F; case F => (refine .cons (.row (by simp (disch := omega) only [c97r0, c97r1, c97r2, EVA, plug, ite_same, decide_true, decide_false, eq_self, simprocAttr] <;> rfl) rfl) .nil)); all_goals fail)) rfl ?_) | ((with_reducible refine chk_h ?_); refine hr_callP1 (by simp only [CA, Nat.reduceEqDiff, ↓reduceIte]; rfl) (by simp only [CA, Nat.reduceEqDiff, ↓reduceIte]; rfl) (by simp (disch := omega) only [CA, Nat.reduceEqDiff, ↓reduceIte, firstTok_nil, firstTok_sl, firstTok_sl0, firstTok_i, firstTok_b, firstTok_ag, firstTok_p, firstTok_s]; rfl) (by first | exact pc99 _ _ _ | ((refine PC.at (q ?x ?y ?z) rfl ?F; case F => (refine .cons (.row (by simp (disch := omega) only [c97r0, c97r1, c97r2, EVA, plug, ite_same, decide_true, decide_false, eq_self, simprocAttr] <;> rfl) rfl) .nil)); all_goals fail)) rfl ?_) | ((with_reducible refine chk_h ?_); refine hr_app (by simp (disch := omega) only [rA, rC, hi', hk', c97r0, c97r1, c97r2, EVA, plug, ite_same, decide_true, decide_false, eq_self, simprocAttr]; with_reducible rfl) rfl ?_) | (with_reducible refine k_condP (by simp only [GA, Nat.reduceEqDiff, ↓reduceIte]; rfl) (by first | (simp only [BO]; rfl) | rfl) (fun ht => ?_) (fun ht => ?_) <;> try (first | exact False.elim ht | exact absurd rfl ht | exact absurd trivial ht | exact Bool.noConfusion ht)) | (with_reducible refine k_ret ?_; repeat with_reducible (first | refine ret_thru ?_ | refine ret_blk ?_ | refine fin ?_)) | (with_reducible refine k_exit ?_; repeat with_reducible (first | refine thru ?_ | refine out_blk ?_ | refine pass (by decide) ?_)) | ((first | refine post1 ?_ | refine post2 ?_ | refine post3 ?_); simp only [GA, Nat.reduceEqDiff, ↓reduceIte]) | (refine postc (by simp only [GA, Nat.reduceEqDiff, ↓reduceIte]; rfl) (by simp (disch := omega) only [rA, rC, hi', hk', c97r0, c97r1, c97r2, EVA, plug, ite_same, decide_true, decide_false, eq_self, simprocAttr]; rfl) ?_) | refine post0 ?_
  all_goals first | exact ends_of | exact ends_eq rfl
theorem cmpB_lt (l : List B) (i k : Nat) : decide (cmpB l i k < 0) = ltB l i k := by
  unfold cmpB ltB orI orI orI orI cmpI
  rw [Bool.eq_iff_iff]
  simp only [decide_eq_true_eq]
  repeat' split
  all_goals omega
def nl (l : List Nat) : List AV := l.map fun (n : Nat) => AV.i .i64 (n : Int)
theorem nl_len (l : List Nat) : (nl l).length = l.length := by simp [nl]
theorem nl_snoc (l : List Nat) (x : Nat) : nl l ++ [.i .i64 (x : Int)] = nl (l ++ [x]) := by simp [nl]
theorem nl_plain (l : List Nat) : AV.plains (nl l) = true := plains_all fun x hx => by
  simp only [nl, List.mem_map] at hx
  obtain ⟨y, _, rfl⟩ := hx; rfl
theorem nl_get {l : List Nat} {j : Nat} (h : j < l.length) : (nl l)[j]? = some (.i .i64 (l.getD j 0 : Nat)) := by simp [nl, h]
abbrev Ix (n : Nat) := { i : Nat // i < n }
theorem swoB (l : List B) : SWO (ltOf fun (x y : Ix l.length) => cmpB l x.1 y.1) where
  irrefl x := by simp only [ltOf, cmpB_lt, ltB]; simp
  trans x y z h1 h2 := by
    simp only [ltOf, cmpB_lt, ltB, decide_eq_true_eq] at *; omega
  ntrans x y z h1 h2 := by
    simp only [ltOf, cmpB_lt, ltB, decide_eq_false_iff_not] at *; omega
theorem encIx (n : Nat) : Enc1 (α := Ix n) (fun x => .i .i64 (x.1 : Int)) (fun x => .int .i64 (x.1 : Int)) := ⟨fun ι x v => by simp only [VRel], fun _ => rfl, fun _ => rfl⟩
theorem sortB {l : List B} (hv : VL l) {h : AH} {t a : Nat} {ns : List Nat} (hm : h.m t = some (.cells true (nl ns))) (hn : ∀ i ∈ ns, i < l.length) (hlen : ns.length < 4611686018427387904) :
    ACalls Try.prog 96 [.sl t 0 ns.length a, .fn 97 [] [.pv [vB l] 0]] h fun r h' => r = .tu [] ∧ h' = h.set t (.cells true (nl (ns.mergeSort fun i k => !ltB l k i))) := by
  by_cases h0 : l.length = 0
  · have : ns = [] := by
      cases ns with
      | nil => rfl
      | cons x r => have := hn x (by simp); omega
    subst this
    refine ACalls.mono (sort_none sortL 97 [.pv [vB l] 0] h t 0 a) fun r h' ⟨e1, e2⟩ => ⟨e1, ?_⟩
    rw [e2, List.mergeSort_nil, set_self hm]
  · haveI : Inhabited (Ix l.length) := ⟨⟨0, by omega⟩⟩
    let d : List (Ix l.length) := ns.attachWith (· < l.length) hn
    have hd : d.map Subtype.val = ns := List.attachWith_map_subtype_val _
    have hd2 : d.map (fun x => AV.i .i64 (x.1 : Int)) = nl ns := by
      rw [← hd]; simp only [nl, List.map_map]; rfl
    have := sort_one sortL (encIx l.length) (swoB l) (fun x y h1 h2 => ?_) (g := 97) (caps := [.pv [vB l] 0]) (by simp only [AV.plains, AV.plain, il_plain, bl_plain, Bool.and_true, Bool.true_and, Bool.and_self, flB_plain]) (fun x y => pc97 l x.1 y.1 x.2 y.2) (h := h) (t := t) (a := a) (d := d) (by rw [hd2]; exact hm) (by simpa [d] using hlen)
    · have hl : d.length = ns.length := by rw [← hd]; simp
      rw [hl] at this
      refine ACalls.mono this fun r h' ⟨e1, e2⟩ => ⟨e1, ?_⟩
      rw [e2]
      have e3 : (d.mergeSort fun x y => !(ltOf (fun (x y : Ix l.length) => cmpB l x.1 y.1)) y x).map Subtype.val = ns.mergeSort fun i k => !ltB l k i := by
        rw [← hd]
        exact List.map_mergeSort fun a _ b _ => by simp only [ltOf, cmpB_lt]
      rw [← e3]; simp only [nl, List.map_map]; rfl
    · simp only [ltOf, cmpB_lt, ltB, decide_eq_false_iff_not] at h1 h2
      by_cases e : x.1 = y.1
      · exact Subtype.ext e
      · exfalso
        rcases Nat.lt_or_gt_of_ne e with q | q
        · have := hv.2.2 x.1 y.1 q y.2; omega
        · have := hv.2.2 y.1 x.1 q x.2; omega
theorem RG85 : (type_of% @c85r0.eq_1) ∧ (type_of% @c85r1.eq_1) ∧ (type_of% @c85r2.eq_1) ∧ (type_of% @c85r3.eq_1) ∧ (type_of% @c85r4.eq_1) ∧ (type_of% @c85r5.eq_1) ∧ (type_of% @c85r6.eq_1) ∧ (type_of% @c85r8.eq_1) ∧ (type_of% @c85r9.eq_1) := ⟨@c85r0.eq_1, @c85r1.eq_1, @c85r2.eq_1, @c85r3.eq_1, @c85r4.eq_1, @c85r5.eq_1, @c85r6.eq_1, @c85r8.eq_1, @c85r9.eq_1⟩
theorem pc85 (l : List B) (hv : VL l) : PC Try.prog 85 [vB l] (.vs l.length (nl (orderL l))) := by
  refine pc_fn fn85 (by simp only [AV.plains, AV.plain, il_plain, bl_plain, Bool.and_true, Bool.true_and, Bool.and_self, flB_plain, nl_plain]) (by simp only [AV.plains, AV.plain, il_plain, bl_plain, Bool.and_true, Bool.true_and, Bool.and_self, flB_plain, nl_plain]) (Nat.le_of_ble_eq_true rfl) ?_
  rw [initSt1]
  have hl := hv.len
  refine k_seq (k_reg ?_)
  refine s_go (by simp (disch := omega) only [RG85, EVA, plug, ite_same, decide_true, decide_false, eq_self, simprocAttr]; with_reducible rfl) ?_
  refine r_done ?_
  refine w_frz (t := 1) (cs := [vB l]) (st' := (1, .pv [vB l] 0) :: [(2, .sl 0 0 0 0), (1, .p 1 0), (0, vB l)]) (by simp (disch := omega) only [RG85, EVA, plug, ite_same, decide_true, decide_false, eq_self, simprocAttr] <;> rfl) (fun x => by
    simp only [St.get]
    by_cases e : x = 1
    · subst e; simp only [if_true]; exact .p
    · simp only [if_neg e]; exact .same) ?_
  repeat' first | (with_reducible first | refine k_seq ?_ | refine k_skip ?_ | refine k_blkS ?_ | refine k_blkR ?_ | refine k_blkC ?_ | refine k_blkH ?_ | refine k_blkB ?_ | refine k_blkK ?_ | refine k_blkE ?_ | refine k_reg ?_) | with_reducible refine r_done ?_ | with_reducible refine s_go (by simp (disch := omega) only [RG85, EVA, plug, ite_same, decide_true, decide_false, eq_self, simprocAttr]; with_reducible rfl) ?_ | ((with_reducible refine chk_r ?_); refine r_callF (by simp only [CA, Nat.reduceEqDiff, ↓reduceIte]; rfl) (by exact rfl) (by simp only [CA, Nat.reduceEqDiff, ↓reduceIte]; rfl) rfl ?_) | (with_reducible refine k_condP (by simp only [GA, Nat.reduceEqDiff, ↓reduceIte]; rfl) (by first | (simp only [BO]; rfl) | rfl) (fun ht => ?_) (fun ht => ?_) <;> try (first | exact False.elim ht | exact absurd rfl ht | exact absurd trivial ht | exact Bool.noConfusion ht)) | (with_reducible refine k_ret ?_; repeat with_reducible (first | refine ret_thru ?_ | refine ret_blk ?_ | refine fin ?_)) | (with_reducible refine k_exit ?_; repeat with_reducible (first | refine thru ?_ | refine out_blk ?_ | refine pass (by decide) ?_)) | ((first | refine post1 ?_ | refine post2 ?_ | refine post3 ?_); simp only [GA, Nat.reduceEqDiff, ↓reduceIte]) | (refine postc (by simp only [GA, Nat.reduceEqDiff, ↓reduceIte]; rfl) (by simp (disch := omega) only [RG85, EVA, plug, ite_same, decide_true, decide_false, eq_self, simprocAttr]; rfl) ?_) | refine post0 ?_
  refine w_virt 1 3 rfl ?_
  refine k_blk (k_loopS (X := Nat) [1, 3, 6, 7] l.length (fun k x => [(1, .pv [vB l] 0), (3, .sl x 0 k 1), (6, .i .i64 l.length), (7, .i .i64 (k : Int))])
    (fun k x h => x ≠ 0 ∧ h.m x = some (.cells true (nl (List.range k)))) _ (by simp only [Am.keep, List.map_cons, List.map_nil, GA, Nat.reduceEqDiff, ↓reduceIte]; try rfl) ⟨?_, by simp (disch := omega) only [RG85, EVA, plug, ite_same, decide_true, decide_false, eq_self, simprocAttr] <;> rfl⟩ ?_)
  · simp only [AH.bump_nx]; omega
  rintro k x h hk ⟨hx, hm⟩ ok pos
  have hx' := ok.m hm
  by_cases hlt : k < l.length
  · have hlt' : (k : Int) < l.length := by omega
    repeat' first | (with_reducible first | refine k_seq ?_ | refine k_skip ?_ | refine k_blkS ?_ | refine k_blkR ?_ | refine k_blkC ?_ | refine k_blkH ?_ | refine k_blkB ?_ | refine k_blkK ?_ | refine k_blkE ?_ | refine k_reg ?_) | with_reducible refine r_done ?_ | with_reducible refine s_go (by simp (disch := omega) only [hlt', hm, hx, nl_len, nl_snoc, List.length_range, RG85, EVA, plug, ite_same, decide_true, decide_false, eq_self, simprocAttr]; with_reducible rfl) ?_ | ((with_reducible refine chk_r ?_); refine r_callF (by simp only [CA, Nat.reduceEqDiff, ↓reduceIte]; rfl) (by exact rfl) (by simp only [CA, Nat.reduceEqDiff, ↓reduceIte]; rfl) rfl ?_) | (with_reducible refine k_condP (by simp only [GA, Nat.reduceEqDiff, ↓reduceIte]; rfl) (by first | (simp only [BO]; rfl) | rfl) (fun ht => ?_) (fun ht => ?_) <;> try (first | exact False.elim ht | exact absurd rfl ht | exact absurd trivial ht | exact Bool.noConfusion ht)) | (with_reducible refine k_ret ?_; repeat with_reducible (first | refine ret_thru ?_ | refine ret_blk ?_ | refine fin ?_)) | (with_reducible refine k_exit ?_; repeat with_reducible (first | refine thru ?_ | refine out_blk ?_ | refine pass (by decide) ?_)) | ((first | refine post1 ?_ | refine post2 ?_ | refine post3 ?_); simp only [GA, Nat.reduceEqDiff, ↓reduceIte]) | (refine postc (by simp only [GA, Nat.reduceEqDiff, ↓reduceIte]; rfl) (by simp (disch := omega) only [hlt', hm, hx, nl_len, nl_snoc, List.length_range, RG85, EVA, plug, ite_same, decide_true, decide_false, eq_self, simprocAttr]; rfl) ?_) | refine post0 ?_
    refine ⟨hlt, ?tk, ?g1, ?g2, ?g3⟩
    case g1 =>
      simp only [Am.keep, List.map_cons, List.map_nil, GA, Nat.reduceEqDiff, ↓reduceIte]
      rfl
    case g2 => omega
    case g3 =>
      rw [List.range_succ, ← nl_snoc]
      simp (disch := omega) only [RG85, EVA, plug, ite_same, decide_true, decide_false, eq_self, simprocAttr] <;> rfl
  · obtain rfl : k = l.length := by omega
    have hlt' : ¬ (l.length : Int) < l.length := by omega
    have q96 := fun h hm => sortB hv (h := h) (t := x) (a := 1) (ns := List.range l.length) hm (fun i hi => List.mem_range.1 hi) (by rw [List.length_range]; omega)
    rw [List.length_range] at q96
    repeat' first | (with_reducible first | refine k_seq ?_ | refine k_skip ?_ | refine k_blkS ?_ | refine k_blkR ?_ | refine k_blkC ?_ | refine k_blkH ?_ | refine k_blkB ?_ | refine k_blkK ?_ | refine k_blkE ?_ | refine k_reg ?_) | with_reducible refine r_done ?_ | with_reducible refine s_go (by simp (disch := omega) only [hlt', RG85, EVA, plug, ite_same, decide_true, decide_false, eq_self, simprocAttr]; with_reducible rfl) ?_ | ((with_reducible refine chk_r ?_); refine r_callF (by simp only [CA, Nat.reduceEqDiff, ↓reduceIte]; rfl) (by exact rfl) (by simp only [CA, Nat.reduceEqDiff, ↓reduceIte]; rfl) rfl ?_) | ((with_reducible refine chk_r ?_); refine r_callX (by simp only [CA, Nat.reduceEqDiff, ↓reduceIte]; rfl) (by simp only [CA, Nat.reduceEqDiff, ↓reduceIte]; rfl) (by first | exact q96 _ (by simp (disch := omega) only [hm, RG85, EVA, plug, ite_same, decide_true, decide_false, eq_self, simprocAttr] <;> rfl)) rfl ?_) | (with_reducible refine k_condP (by simp only [GA, Nat.reduceEqDiff, ↓reduceIte]; rfl) (by first | (simp only [BO]; rfl) | rfl) (fun ht => ?_) (fun ht => ?_) <;> try (first | exact False.elim ht | exact absurd rfl ht | exact absurd trivial ht | exact Bool.noConfusion ht)) | (with_reducible refine k_ret ?_; repeat with_reducible (first | refine ret_thru ?_ | refine ret_blk ?_ | refine fin ?_)) | (with_reducible refine k_exit ?_; repeat with_reducible (first | refine thru ?_ | refine out_blk ?_ | refine pass (by decide) ?_)) | ((first | refine post1 ?_ | refine post2 ?_ | refine post3 ?_); simp only [GA, Nat.reduceEqDiff, ↓reduceIte]) | (refine postc (by simp only [GA, Nat.reduceEqDiff, ↓reduceIte]; rfl) (by simp (disch := omega) only [hlt', RG85, EVA, plug, ite_same, decide_true, decide_false, eq_self, simprocAttr]; rfl) ?_) | refine post0 ?_
    rintro r h' ⟨rfl, rfl⟩
    repeat' first | (with_reducible first | refine k_seq ?_ | refine k_skip ?_ | refine k_blkS ?_ | refine k_blkR ?_ | refine k_blkC ?_ | refine k_blkH ?_ | refine k_blkB ?_ | refine k_blkK ?_ | refine k_blkE ?_ | refine k_reg ?_) | with_reducible refine r_done ?_ | with_reducible refine s_go (by simp (disch := omega) only [RG85, EVA, plug, ite_same, decide_true, decide_false, eq_self, simprocAttr]; with_reducible rfl) ?_ | ((with_reducible refine chk_r ?_); refine r_callF (by simp only [CA, Nat.reduceEqDiff, ↓reduceIte]; rfl) (by exact rfl) (by simp only [CA, Nat.reduceEqDiff, ↓reduceIte]; rfl) rfl ?_) | (with_reducible refine k_condP (by simp only [GA, Nat.reduceEqDiff, ↓reduceIte]; rfl) (by first | (simp only [BO]; rfl) | rfl) (fun ht => ?_) (fun ht => ?_) <;> try (first | exact False.elim ht | exact absurd rfl ht | exact absurd trivial ht | exact Bool.noConfusion ht)) | (with_reducible refine k_ret ?_; repeat with_reducible (first | refine ret_thru ?_ | refine ret_blk ?_ | refine fin ?_)) | (with_reducible refine k_exit ?_; repeat with_reducible (first | refine thru ?_ | refine out_blk ?_ | refine pass (by decide) ?_)) | ((first | refine post1 ?_ | refine post2 ?_ | refine post3 ?_); simp only [GA, Nat.reduceEqDiff, ↓reduceIte]) | (refine postc (by simp only [GA, Nat.reduceEqDiff, ↓reduceIte]; rfl) (by simp (disch := omega) only [RG85, EVA, plug, ite_same, decide_true, decide_false, eq_self, simprocAttr]; rfl) ?_) | refine post0 ?_
    exact ends_sl (k := 1) (by simp (disch := omega) only [RG85, EVA, plug, ite_same, decide_true, decide_false, eq_self, simprocAttr] <;> rfl) (by rw [nl_len, order_len, Nat.mul_one])
end Go.Proofs.Ytjncfpfgobojpaa
set_option linter.unusedVariables false
set_option linter.unusedSimpArgs false
namespace Go.Proofs.Ytjncfpfgobojpaa
open Go Go.Am Go.Proofs Go.Sort
def rw1 (r : List Nat) : Rw := (r.length, nl r)
def rvN (r : List Nat) : AV := .vs r.length (nl r)
abbrev vRows (rows : List (List Nat)) : AV := .vs rows.length (rows.map rvN)
theorem rows_plain (rows : List (List Nat)) : AV.plains (rows.map rvN) = true := plains_all fun x hx => by
  obtain ⟨r, _, rfl⟩ := List.mem_map.1 hx
  exact nl_plain r
theorem rw_plain {rows : List (List Nat)} : ∀ p ∈ rows.map rw1, AV.plains p.2 = true := fun p hp => by
  obtain ⟨r, _, rfl⟩ := List.mem_map.1 hp
  exact nl_plain r
theorem rv_map (rows : List (List Nat)) : (rows.map rw1).map rV = rows.map rvN := by rw [List.map_map]; rfl
theorem rvN_get {rows : List (List Nat)} {k : Nat} (h : k < rows.length) : (rows.map rvN)[k]? = some (.vs (rows.getD k []).length (nl (rows.getD k []))) := by
  simp [h, rvN]
theorem rD_map {rows : List (List Nat)} {k : Nat} (h : k < rows.length) : rD (rows.map rw1) k = ((rows.getD k []).length, nl (rows.getD k [])) := by
  simp [rD, h, rw1]
theorem last_get {r : List Nat} (h : r ≠ []) : (nl r)[r.length - 1]? = some (.i .i64 (lastN r : Nat)) := by
  have : 0 < r.length := List.length_pos_iff.2 h
  rw [nl_get (by omega)]; rfl
theorem Nest.lt {h : AH} {k r : Nat} {ts : List Nat} {rows : List Rw} (N : Nest h k r ts rows) (ok : h.ok) : ∀ t ∈ ts, t < h.nx := fun t ht => by
  obtain ⟨i, hi, e⟩ := List.getElem_of_mem ht
  have := N.ht i (by have := N.len; omega)
  have e2 : tD ts i = t := by simp [tD, hi, e]
  rw [e2] at this
  exact ok.m this
theorem pc87 (l : List B) (row : List Nat) (i : Nat) (hr : row ≠ []) (hx : lastN row < l.length) (hi : i < l.length) (hl : row.length ≤ 1000) : PC Try.prog 87 [.vs row.length (nl row), .pv [vB l] 0, .pv [.i .i64 (i : Int)] 0] (.b (mayI l (lastN row) i)) := by
  refine pc_fn fn87 (by simp only [AV.plains, AV.plain, il_plain, bl_plain, Bool.and_true, Bool.true_and, Bool.and_self, flB_plain, nl_plain]) (by simp only [AV.plains, AV.plain, il_plain, bl_plain, Bool.and_true, Bool.true_and, Bool.and_self, flB_plain, nl_plain]) (Nat.le_of_ble_eq_true rfl) ?_
  rw [initSt3]
  have rA := rdB hx
  have rC := rdB hi
  have q := pc58 (bD l (lastN row)) (bD l i)
  simp only [eB] at rA rC q
  have hi' : (i : Int) < l.length := by omega
  have hx' : ((lastN row : Nat) : Int) < l.length := by omega
  have hp : 0 < row.length := List.length_pos_iff.2 hr
  have e1 : (row.length : Int) - 1 = ((row.length - 1 : Nat) : Int) := by omega
  have g := last_get hr
  have hlt : row.length - 1 < row.length := by omega
  repeat' first | (with_reducible first | refine k_seq ?_ | refine k_skip ?_ | refine k_blkS ?_ | refine k_blkR ?_ | refine k_blkC ?_ | refine k_blkH ?_ | refine k_blkB ?_ | refine k_blkK ?_ | refine k_blkE ?_ | refine k_reg ?_) | with_reducible refine k_head (by with_unfolding_all rfl) ?_ | with_reducible refine k_headS ?_ | (with_reducible refine SepK.mk ?_ ?_; (refine sepQ_P ?_; simp [sepQ, sepG, AOp.late, AOp.free, AOp.xs, AOp.isAl, tokNe, AV.tok, stS_get, strip, AX.val, c87r0, c87r1, GA]; try omega)) | with_reducible refine r_done ?_ | with_reducible refine hr_done ?_ | with_reducible refine s_go (by simp (disch := omega) only [rA, rC, hi', hx', e1, g, hlt, c87r0, c87r1, EVA, plug, ite_same, decide_true, decide_false, eq_self, simprocAttr]; with_reducible rfl) ?_ | with_reducible refine h_go (by with_unfolding_all rfl) (by simp (disch := omega) only [rA, rC, hi', hx', e1, g, hlt, c87r0, c87r1, EVA, plug, ite_same, decide_true, decide_false, eq_self, simprocAttr]; with_reducible rfl) ?_ | ((with_reducible refine chk_r ?_); refine r_callF (by simp only [CA, Nat.reduceEqDiff, ↓reduceIte]; rfl) (by exact rfl) (by simp only [CA, Nat.reduceEqDiff, ↓reduceIte]; rfl) rfl ?_) | ((with_reducible refine chk_h ?_); refine hr_callF (by simp only [CA, Nat.reduceEqDiff, ↓reduceIte]; rfl) (by exact rfl) (by simp only [CA, Nat.reduceEqDiff, ↓reduceIte]; rfl) rfl ?_) | ((with_reducible refine chk_r ?_); refine r_callP (by simp only [CA, Nat.reduceEqDiff, ↓reduceIte]; rfl) (by simp only [CA, Nat.reduceEqDiff, ↓reduceIte]; rfl) (by first | exact q _) rfl ?_) | ((with_reducible refine chk_h ?_); refine hr_callP (by simp only [CA, Nat.reduceEqDiff, ↓reduceIte]; rfl) (by simp only [CA, Nat.reduceEqDiff, ↓reduceIte]; rfl) (by first | exact q _) rfl ?_) | ((with_reducible refine chk_h ?_); refine hr_callP1 (by simp only [CA, Nat.reduceEqDiff, ↓reduceIte]; rfl) (by simp only [CA, Nat.reduceEqDiff, ↓reduceIte]; rfl) (by simp (disch := omega) only [CA, Nat.reduceEqDiff, ↓reduceIte, firstTok_nil, firstTok_sl, firstTok_sl0, firstTok_i, firstTok_b, firstTok_ag, firstTok_p, firstTok_s]; rfl) (by first | exact q _) rfl ?_) | ((with_reducible refine chk_h ?_); refine hr_app (by simp (disch := omega) only [rA, rC, hi', hx', e1, g, hlt, c87r0, c87r1, EVA, plug, ite_same, decide_true, decide_false, eq_self, simprocAttr]; with_reducible rfl) rfl ?_) | (with_reducible refine k_condP (by simp only [GA, Nat.reduceEqDiff, ↓reduceIte]; rfl) (by first | (simp only [BO]; rfl) | rfl) (fun ht => ?_) (fun ht => ?_) <;> try (first | exact False.elim ht | exact absurd rfl ht | exact absurd trivial ht | exact Bool.noConfusion ht)) | (with_reducible refine k_ret ?_; repeat with_reducible (first | refine ret_thru ?_ | refine ret_blk ?_ | refine fin ?_)) | (with_reducible refine k_exit ?_; repeat with_reducible (first | refine thru ?_ | refine out_blk ?_ | refine pass (by decide) ?_)) | ((first | refine post1 ?_ | refine post2 ?_ | refine post3 ?_); simp only [GA, Nat.reduceEqDiff, ↓reduceIte]) | (refine postc (by simp only [GA, Nat.reduceEqDiff, ↓reduceIte]; rfl) (by simp (disch := omega) only [rA, rC, hi', hx', e1, g, hlt, c87r0, c87r1, EVA, plug, ite_same, decide_true, decide_false, eq_self, simprocAttr]; rfl) ?_) | refine post0 ?_
  all_goals first | exact ends_of | exact ends_eq rfl
def fitI (l : List B) (rows : List (List Nat)) (i : Nat) : Int := if fit l rows i < rows.length then fit l rows i else -1
theorem fit_ge {l : List B} {i : Nat} : ∀ {rows : List (List Nat)} {k : Nat}, (∀ j, j < k → mayI l (lastN (rows.getD j [])) i = false) → k ≤ rows.length → k ≤ fit l rows i
  | [], k, h, hk => by simp at hk; omega
  | r :: rs, k, h, hk => by
    simp only [fit]
    cases k with
    | zero => exact Nat.zero_le _
    | succ k =>
      have h0 := h 0 (by omega)
      simp only [List.getD_cons_zero] at h0
      rw [if_neg (by rw [h0]; simp)]
      have := fit_ge (rows := rs) (k := k) (l := l) (i := i) (fun j hj => by have := h (j + 1) (by omega); simpa using this) (by simpa using hk)
      omega
theorem RG86 : (type_of% @c86r0.eq_1) ∧ (type_of% @c86r1.eq_1) ∧ (type_of% @c86r2.eq_1) ∧ (type_of% @c86r3.eq_1) ∧ (type_of% @c86r4.eq_1) ∧ (type_of% @c86r5.eq_1) ∧ (type_of% @c86r6.eq_1) ∧ (type_of% @c86r8.eq_1) := ⟨@c86r0.eq_1, @c86r1.eq_1, @c86r2.eq_1, @c86r3.eq_1, @c86r4.eq_1, @c86r5.eq_1, @c86r6.eq_1, @c86r8.eq_1⟩
theorem pc86 (l : List B) (rows : List (List Nat)) (i : Nat) (hr : ∀ r ∈ rows, r ≠ [] ∧ lastN r < l.length ∧ r.length ≤ 1000) (hi : i < l.length) (hl : rows.length ≤ 1000) :
    PC Try.prog 86 [vRows rows, .fn 87 [] [.pv [vB l] 0, .pv [.i .i64 (i : Int)] 0]] (.i .i64 (fitI l rows i)) := by
  refine pc_fn fn86 (by simp only [AV.plains, AV.plain, il_plain, bl_plain, Bool.and_true, Bool.true_and, Bool.and_self, flB_plain, rows_plain]) (by simp only [AV.plains, AV.plain, il_plain, bl_plain, Bool.and_true, Bool.true_and, Bool.and_self, flB_plain, rows_plain]) (Nat.le_of_ble_eq_true rfl) ?_
  rw [initSt2]
  repeat' first | (with_reducible first | refine k_seq ?_ | refine k_skip ?_ | refine k_blkS ?_ | refine k_blkR ?_ | refine k_blkC ?_ | refine k_blkH ?_ | refine k_blkB ?_ | refine k_blkK ?_ | refine k_blkE ?_ | refine k_reg ?_) | with_reducible refine r_done ?_ | with_reducible refine s_go (by simp (disch := omega) only [RG86, EVA, plug, ite_same, decide_true, decide_false, eq_self, simprocAttr]; with_reducible rfl) ?_ | ((with_reducible refine chk_r ?_); refine r_callF (by simp only [CA, Nat.reduceEqDiff, ↓reduceIte]; rfl) (by exact rfl) (by simp only [CA, Nat.reduceEqDiff, ↓reduceIte]; rfl) rfl ?_) | (with_reducible refine k_condP (by simp only [GA, Nat.reduceEqDiff, ↓reduceIte]; rfl) (by first | (simp only [BO]; rfl) | rfl) (fun ht => ?_) (fun ht => ?_) <;> try (first | exact False.elim ht | exact absurd rfl ht | exact absurd trivial ht | exact Bool.noConfusion ht)) | (with_reducible refine k_ret ?_; repeat with_reducible (first | refine ret_thru ?_ | refine ret_blk ?_ | refine fin ?_)) | (with_reducible refine k_exit ?_; repeat with_reducible (first | refine thru ?_ | refine out_blk ?_ | refine pass (by decide) ?_)) | ((first | refine post1 ?_ | refine post2 ?_ | refine post3 ?_); simp only [GA, Nat.reduceEqDiff, ↓reduceIte]) | (refine postc (by simp only [GA, Nat.reduceEqDiff, ↓reduceIte]; rfl) (by simp (disch := omega) only [RG86, EVA, plug, ite_same, decide_true, decide_false, eq_self, simprocAttr]; rfl) ?_) | refine post0 ?_
  refine k_blk (k_loopS (X := Unit) [0, 1, 7, 8] rows.length (fun k _ => [(0, vRows rows), (1, .fn 87 [] [.pv [vB l] 0, .pv [.i .i64 (i : Int)] 0]), (7, .i .i64 rows.length), (8, .i .i64 (k : Int))]) (fun k _ h => ∀ j, j < k → mayI l (lastN (rows.getD j [])) i = false) () (by simp only [Am.keep, List.map_cons, List.map_nil, GA, Nat.reduceEqDiff, ↓reduceIte]; try rfl) (fun j hj => by omega) ?_)
  rintro k _ h hk hf ok pos
  by_cases hlt : k < rows.length
  · have hlt' : (k : Int) < rows.length := by omega
    have g := rvN_get hlt
    obtain ⟨h1, h2, h3⟩ := hr _ (mem_row hlt)
    have q := pc87 l (rows.getD k []) i h1 h2 hi h3
    have ge := fit_ge (l := l) (i := i) (rows := rows) (k := k) hf hk
    cases hm : mayI l (lastN (rows.getD k [])) i with
    | true =>
      rw [hm] at q
      repeat' first | (with_reducible first | refine k_seq ?_ | refine k_skip ?_ | refine k_blkS ?_ | refine k_blkR ?_ | refine k_blkC ?_ | refine k_blkH ?_ | refine k_blkB ?_ | refine k_blkK ?_ | refine k_blkE ?_ | refine k_reg ?_) | with_reducible refine r_done ?_ | with_reducible refine s_go (by simp (disch := omega) only [hlt', g, RG86, EVA, plug, ite_same, decide_true, decide_false, eq_self, simprocAttr]; with_reducible rfl) ?_ | ((with_reducible refine chk_r ?_); refine r_callF (by simp only [CA, Nat.reduceEqDiff, ↓reduceIte]; rfl) (by exact rfl) (by simp only [CA, Nat.reduceEqDiff, ↓reduceIte]; rfl) rfl ?_) | ((with_reducible refine chk_r ?_); refine r_callP (by simp only [CA, Nat.reduceEqDiff, ↓reduceIte]; rfl) (by simp only [CA, Nat.reduceEqDiff, ↓reduceIte]; rfl) (by first | exact q _) rfl ?_) | (with_reducible refine k_condP (by simp only [GA, Nat.reduceEqDiff, ↓reduceIte]; rfl) (by first | (simp only [BO]; rfl) | rfl) (fun ht => ?_) (fun ht => ?_) <;> try (first | exact False.elim ht | exact absurd rfl ht | exact absurd trivial ht | exact Bool.noConfusion ht)) | (with_reducible refine k_ret ?_; repeat with_reducible (first | refine ret_thru ?_ | refine ret_blk ?_ | refine fin ?_)) | (with_reducible refine k_exit ?_; repeat with_reducible (first | refine thru ?_ | refine out_blk ?_ | refine pass (by decide) ?_)) | ((first | refine post1 ?_ | refine post2 ?_ | refine post3 ?_); simp only [GA, Nat.reduceEqDiff, ↓reduceIte]) | (refine postc (by simp only [GA, Nat.reduceEqDiff, ↓reduceIte]; rfl) (by simp (disch := omega) only [hlt', g, RG86, EVA, plug, ite_same, decide_true, decide_false, eq_self, simprocAttr]; rfl) ?_) | refine post0 ?_
      have : fit l rows i = k := by
        refine Nat.le_antisymm (Classical.byContradiction fun h => ?_) ge
        have := fit_no (l := l) (i := i) (rows := rows) (j := k) (by omega)
        rw [hm] at this; cases this
      refine ends_eq (i_eq ?_)
      unfold fitI
      rw [this, if_pos hlt]
    | false =>
      rw [hm] at q
      repeat' first | (with_reducible first | refine k_seq ?_ | refine k_skip ?_ | refine k_blkS ?_ | refine k_blkR ?_ | refine k_blkC ?_ | refine k_blkH ?_ | refine k_blkB ?_ | refine k_blkK ?_ | refine k_blkE ?_ | refine k_reg ?_) | with_reducible refine r_done ?_ | with_reducible refine s_go (by simp (disch := omega) only [hlt', g, RG86, EVA, plug, ite_same, decide_true, decide_false, eq_self, simprocAttr]; with_reducible rfl) ?_ | ((with_reducible refine chk_r ?_); refine r_callF (by simp only [CA, Nat.reduceEqDiff, ↓reduceIte]; rfl) (by exact rfl) (by simp only [CA, Nat.reduceEqDiff, ↓reduceIte]; rfl) rfl ?_) | ((with_reducible refine chk_r ?_); refine r_callP (by simp only [CA, Nat.reduceEqDiff, ↓reduceIte]; rfl) (by simp only [CA, Nat.reduceEqDiff, ↓reduceIte]; rfl) (by first | exact q _) rfl ?_) | (with_reducible refine k_condP (by simp only [GA, Nat.reduceEqDiff, ↓reduceIte]; rfl) (by first | (simp only [BO]; rfl) | rfl) (fun ht => ?_) (fun ht => ?_) <;> try (first | exact False.elim ht | exact absurd rfl ht | exact absurd trivial ht | exact Bool.noConfusion ht)) | (with_reducible refine k_ret ?_; repeat with_reducible (first | refine ret_thru ?_ | refine ret_blk ?_ | refine fin ?_)) | (with_reducible refine k_exit ?_; repeat with_reducible (first | refine thru ?_ | refine out_blk ?_ | refine pass (by decide) ?_)) | ((first | refine post1 ?_ | refine post2 ?_ | refine post3 ?_); simp only [GA, Nat.reduceEqDiff, ↓reduceIte]) | (refine postc (by simp only [GA, Nat.reduceEqDiff, ↓reduceIte]; rfl) (by simp (disch := omega) only [hlt', g, RG86, EVA, plug, ite_same, decide_true, decide_false, eq_self, simprocAttr]; rfl) ?_) | refine post0 ?_
      refine ⟨hlt, (), (by simp only [Am.keep, List.map_cons, List.map_nil, GA, Nat.reduceEqDiff, ↓reduceIte]; try rfl), fun j hj => ?_⟩
      by_cases e : j = k
      · subst e; exact hm
      · exact hf j (by omega)
  · obtain rfl : k = rows.length := by omega
    have hlt' : ¬ (rows.length : Int) < rows.length := by omega
    have ge := fit_ge (l := l) (i := i) (rows := rows) (k := rows.length) hf hk
    repeat' first | (with_reducible first | refine k_seq ?_ | refine k_skip ?_ | refine k_blkS ?_ | refine k_blkR ?_ | refine k_blkC ?_ | refine k_blkH ?_ | refine k_blkB ?_ | refine k_blkK ?_ | refine k_blkE ?_ | refine k_reg ?_) | with_reducible refine r_done ?_ | with_reducible refine s_go (by simp (disch := omega) only [hlt', RG86, EVA, plug, ite_same, decide_true, decide_false, eq_self, simprocAttr]; with_reducible rfl) ?_ | ((with_reducible refine chk_r ?_); refine r_callF (by simp only [CA, Nat.reduceEqDiff, ↓reduceIte]; rfl) (by exact rfl) (by simp only [CA, Nat.reduceEqDiff, ↓reduceIte]; rfl) rfl ?_) | (with_reducible refine k_condP (by simp only [GA, Nat.reduceEqDiff, ↓reduceIte]; rfl) (by first | (simp only [BO]; rfl) | rfl) (fun ht => ?_) (fun ht => ?_) <;> try (first | exact False.elim ht | exact absurd rfl ht | exact absurd trivial ht | exact Bool.noConfusion ht)) | (with_reducible refine k_ret ?_; repeat with_reducible (first | refine ret_thru ?_ | refine ret_blk ?_ | refine fin ?_)) | (with_reducible refine k_exit ?_; repeat with_reducible (first | refine thru ?_ | refine out_blk ?_ | refine pass (by decide) ?_)) | ((first | refine post1 ?_ | refine post2 ?_ | refine post3 ?_); simp only [GA, Nat.reduceEqDiff, ↓reduceIte]) | (refine postc (by simp only [GA, Nat.reduceEqDiff, ↓reduceIte]; rfl) (by simp (disch := omega) only [hlt', RG86, EVA, plug, ite_same, decide_true, decide_false, eq_self, simprocAttr]; rfl) ?_) | refine post0 ?_
    refine ends_eq (i_eq ?_)
    unfold fitI
    rw [if_neg (by omega)]
end Go.Proofs.Ytjncfpfgobojpaa
set_option linter.unusedVariables false
set_option linter.unusedSimpArgs false
namespace Go.Proofs.Ytjncfpfgobojpaa
open Go Go.Am Go.Proofs Go.Sort
theorem od_inj {l : List B} {m k : Nat} (hm : m < l.length) (hk : k < l.length) (e : od l m = od l k) : m = k := by
  have h1 : m < (orderL l).length := by rw [order_len]; exact hm
  have h2 : k < (orderL l).length := by rw [order_len]; exact hk
  have : (orderL l)[m] = (orderL l)[k] := by simpa [od, h1, h2] using e
  exact (List.getElem_inj (order_nodup l)).1 this
theorem int_set {us : List Int} {i j : Nat} {v : Int} (hi : i < us.length) : (us.set i v).getD j 0 = if j = i then v else us.getD j 0 := by
  by_cases e : j = i
  · subst e; simp [List.getD_eq_getElem?_getD, hi]
  · have : ¬ i = j := fun q => e q.symm
    simp [List.getD_eq_getElem?_getD, List.getElem?_set, this, e]
theorem us_step {l : List B} {us : List Int} {k : Nat} {v : Int} (hu : us.length = l.length) (hk : k < l.length) (H : ∀ m, m < k → us.getD (od l m) 0 = undK l m) (hv : v = undK l k) : ∀ m, m < k + 1 → (us.set (od l k) v).getD (od l m) 0 = undK l m := fun m hm => by
  have hx : od l k < us.length := by rw [hu]; exact order_get hk
  rw [int_set hx]
  by_cases e : m = k
  · subst e; rw [if_pos rfl]; exact hv
  · rw [if_neg fun q => e (od_inj (by omega) hk q)]; exact H m (by omega)
def undL (l : List B) : List Int := (List.range l.length).map fun x => undK l ((orderL l).idxOf x)
theorem undL_eq {l : List B} {us : List Int} (hu : us.length = l.length) (H : ∀ m, m < l.length → us.getD (od l m) 0 = undK l m) : us = undL l := by
  apply List.ext_getElem
  · rw [hu]; simp [undL]
  · intro x h1 h2
    have hx : x < l.length := by rw [← hu]; exact h1
    have hin := order_mem.2 hx
    have hix : (orderL l).idxOf x < l.length := by rw [← order_len l]; exact List.idxOf_lt_length_iff.2 hin
    have := H _ hix
    have e : od l ((orderL l).idxOf x) = x := by
      have h3 : (orderL l).idxOf x < (orderL l).length := by rw [order_len]; exact hix
      simp only [od, List.getD_eq_getElem?_getD, List.getElem?_eq_getElem h3, Option.getD_some]
      exact List.getElem_idxOf h3
    rw [e] at this
    simp only [undL, List.getElem_map, List.getElem_range]
    rw [← this]; simp [h1]
theorem row_len {l : List B} : ∀ {k : Nat}, k ≤ l.length → ∀ j, ((rowsK l k).getD j []).length ≤ k
  | 0, _, j => by simp [rowsK]
  | k + 1, h, j => by
    have ih := row_len (l := l) (k := k) (by omega) j
    rw [rowsK_get (by omega)]
    split
    · split
      · rw [List.length_append]; simp only [List.length_cons, List.length_nil]; omega
      · simp
    · omega
theorem set_last {cs : List AV} {y z : AV} {n : Nat} (h : cs.length = n) : (cs ++ [z]).set n y = cs ++ [y] := by subst h; simp
theorem get_last {cs : List AV} {z : AV} {n : Nat} (h : cs.length = n) : (cs ++ [z])[n]? = some z := by subst h; simp
theorem get_low {cs : List AV} {z v : AV} {n : Nat} (h : cs[n]? = some v) : (cs ++ [z])[n]? = some v := by
  have : n < cs.length := (List.getElem?_eq_some_iff.1 h).1
  rw [List.getElem?_append_left this]; exact h
theorem RG52 : (type_of% @c52r0.eq_1) ∧ (type_of% @c52r1.eq_1) ∧ (type_of% @c52r2.eq_1) ∧ (type_of% @c52r3.eq_1) ∧ (type_of% @c52r4.eq_1) ∧ (type_of% @c52r5.eq_1) ∧ (type_of% @c52r6.eq_1) ∧ (type_of% @c52r7.eq_1) ∧ (type_of% @c52r8.eq_1) ∧ (type_of% @c52r9.eq_1) ∧ (type_of% @c52r10.eq_1) ∧ (type_of% @c52r11.eq_1) ∧ (type_of% @c52r12.eq_1) ∧ (type_of% @c52r13.eq_1) ∧ (type_of% @c52r14.eq_1) ∧ (type_of% @c52r16.eq_1) := ⟨@c52r0.eq_1, @c52r1.eq_1, @c52r2.eq_1, @c52r3.eq_1, @c52r4.eq_1, @c52r5.eq_1, @c52r6.eq_1, @c52r7.eq_1, @c52r8.eq_1, @c52r9.eq_1, @c52r10.eq_1, @c52r11.eq_1, @c52r12.eq_1, @c52r13.eq_1, @c52r14.eq_1, @c52r16.eq_1⟩
set_option maxHeartbeats 2000000 in
theorem pc52 (l : List B) (hv : VL l) : PC Try.prog 52 [vB l] (.tu [vRows (rowsL l), .vs l.length (il (undL l))]) := by
  refine pc_fn fn52 (by simp only [AV.plains, AV.plain, il_plain, bl_plain, Bool.and_true, Bool.true_and, Bool.and_self, flB_plain, rows_plain]) (by simp only [AV.plains, AV.plain, il_plain, bl_plain, Bool.and_true, Bool.true_and, Bool.and_self, flB_plain, rows_plain]) (Nat.le_of_ble_eq_true rfl) ?_
  rw [initSt1]
  have hl := hv.len
  have q85 := pc85 l hv
  refine k_seq (k_reg ?_)
  refine s_go (by simp (disch := omega) only [RG52, EVA, plug, ite_same, decide_true, decide_false, eq_self, simprocAttr]; with_reducible rfl) ?_
  refine r_done ?_
  refine w_frz (t := 1) (cs := [vB l]) (st' := (1, .pv [vB l] 0) :: [(3, .sl 0 0 0 0), (2, .sl 0 0 0 0), (1, .p 1 0), (0, vB l)]) (by simp (disch := omega) only [RG52, EVA, plug, ite_same, decide_true, decide_false, eq_self, simprocAttr] <;> rfl) (fun x => by
    simp only [St.get]
    by_cases e : x = 1
    · subst e; simp only [if_true]; exact .p
    · simp only [if_neg e]; exact .same) ?_
  repeat' first | (with_reducible first | refine k_seq ?_ | refine k_skip ?_ | refine k_blkS ?_ | refine k_blkR ?_ | refine k_blkC ?_ | refine k_blkH ?_ | refine k_blkB ?_ | refine k_blkK ?_ | refine k_blkE ?_ | refine k_reg ?_) | with_reducible refine k_head (by with_unfolding_all rfl) ?_ | with_reducible refine k_headS ?_ | (with_reducible refine SepK.mk ?_ ?_; (refine sepQ_P ?_; simp [sepQ, sepG, AOp.late, AOp.free, AOp.xs, AOp.isAl, tokNe, AV.tok, stS_get, strip, AX.val, RG52, GA]; try omega)) | with_reducible refine r_done ?_ | with_reducible refine hr_done ?_ | with_reducible refine s_go (by simp (disch := omega) only [RG52, EVA, plug, ite_same, decide_true, decide_false, eq_self, simprocAttr]; with_reducible rfl) ?_ | with_reducible refine h_go (by with_unfolding_all rfl) (by simp (disch := omega) only [RG52, EVA, plug, ite_same, decide_true, decide_false, eq_self, simprocAttr]; with_reducible rfl) ?_ | ((with_reducible refine chk_r ?_); refine r_callF (by simp only [CA, Nat.reduceEqDiff, ↓reduceIte]; rfl) (by exact rfl) (by simp only [CA, Nat.reduceEqDiff, ↓reduceIte]; rfl) rfl ?_) | ((with_reducible refine chk_h ?_); refine hr_callF (by simp only [CA, Nat.reduceEqDiff, ↓reduceIte]; rfl) (by exact rfl) (by simp only [CA, Nat.reduceEqDiff, ↓reduceIte]; rfl) rfl ?_) | ((with_reducible refine chk_r ?_); refine r_callP (by simp only [CA, Nat.reduceEqDiff, ↓reduceIte]; rfl) (by simp only [CA, Nat.reduceEqDiff, ↓reduceIte]; rfl) (by first | exact q85 _) rfl ?_) | ((with_reducible refine chk_h ?_); refine hr_callP (by simp only [CA, Nat.reduceEqDiff, ↓reduceIte]; rfl) (by simp only [CA, Nat.reduceEqDiff, ↓reduceIte]; rfl) (by first | exact q85 _) rfl ?_) | ((with_reducible refine chk_h ?_); refine hr_callP1 (by simp only [CA, Nat.reduceEqDiff, ↓reduceIte]; rfl) (by simp only [CA, Nat.reduceEqDiff, ↓reduceIte]; rfl) (by simp (disch := omega) only [CA, Nat.reduceEqDiff, ↓reduceIte, firstTok_nil, firstTok_sl, firstTok_sl0, firstTok_i, firstTok_b, firstTok_ag, firstTok_p, firstTok_s]; rfl) (by first | exact q85 _) rfl ?_) | ((with_reducible refine chk_h ?_); refine hr_app (by simp (disch := omega) only [RG52, EVA, plug, ite_same, decide_true, decide_false, eq_self, simprocAttr]; with_reducible rfl) rfl ?_) | (with_reducible refine k_condP (by simp only [GA, Nat.reduceEqDiff, ↓reduceIte]; rfl) (by first | (simp only [BO]; rfl) | rfl) (fun ht => ?_) (fun ht => ?_) <;> try (first | exact False.elim ht | exact absurd rfl ht | exact absurd trivial ht | exact Bool.noConfusion ht)) | (with_reducible refine k_ret ?_; repeat with_reducible (first | refine ret_thru ?_ | refine ret_blk ?_ | refine fin ?_)) | (with_reducible refine k_exit ?_; repeat with_reducible (first | refine thru ?_ | refine out_blk ?_ | refine pass (by decide) ?_)) | ((first | refine post1 ?_ | refine post2 ?_ | refine post3 ?_); simp only [GA, Nat.reduceEqDiff, ↓reduceIte]) | (refine postc (by simp only [GA, Nat.reduceEqDiff, ↓reduceIte]; rfl) (by simp (disch := omega) only [RG52, EVA, plug, ite_same, decide_true, decide_false, eq_self, simprocAttr]; rfl) ?_) | refine post0 ?_
  refine w_virt 1 2 rfl ?_
  refine k_blk (k_loopS (X := Nat × List Nat × Nat × List Int) [1, 2, 3, 12, 13, 14] l.length (fun k x => [(1, .pv [vB l] 0), (2, .sl x.1 0 (rowsK l k).length 1), (3, .sl x.2.2.1 0 l.length 1), (12, .vs l.length (nl (orderL l))), (13, .i .i64 l.length), (14, .i .i64 (k : Int))])
    (fun k x h => Nest h 1 x.1 x.2.1 ((rowsK l k).map rw1) ∧ x.2.2.1 ≠ 0 ∧ x.2.2.1 ≠ x.1 ∧ x.2.2.1 ∉ x.2.1 ∧ h.m x.2.2.1 = some (.cells true (il x.2.2.2)) ∧ x.2.2.2.length = l.length ∧ ∀ m, m < k → x.2.2.2.getD (od l m) 0 = undK l m) (_, [], _, List.replicate l.length 0) (by simp only [Am.keep, List.map_cons, List.map_nil, GA, Nat.reduceEqDiff, ↓reduceIte]; try rfl) ⟨.nil (by simp (disch := omega) only [RG52, EVA, plug, ite_same, decide_true, decide_false, eq_self, simprocAttr] <;> rfl) (by simp only [AH.bump_nx]; omega), ?_, ?_, by simp, by simp (disch := omega) only [il_rep, RG52, EVA, plug, ite_same, decide_true, decide_false, eq_self, simprocAttr] <;> rfl, by simp, fun m hm => by omega⟩ ?_)
  · simp only [AH.bump_nx, AH.set_nx, AH.kill_nx, H1_nx]; omega
  · simp only [AH.bump_nx, AH.set_nx, AH.kill_nx, H1_nx]; omega
  rintro k ⟨r, ts, u, us⟩ h hk ⟨N, u0, ur, un, hu, hul, hus⟩ ok pos
  simp only at N u0 ur un hu hul hus ⊢
  have hr := N.hr
  have r0 := N.r0
  have lr := ok.m hr
  have lu := ok.m hu
  have tlt := Nest.lt N ok
  have Nl : ((rowsK l k).map rw1).length = (rowsK l k).length := List.length_map _
  have ru : ¬ r = u := fun e => ur e.symm
  by_cases hlt : k < l.length
  · have hlt' : (k : Int) < l.length := by omega
    have Rk := rk (l := l) (k := k) (by omega)
    have hx : od l k < l.length := order_get hlt
    have gx : (nl (orderL l))[k]? = some (.i .i64 ((od l k : Nat) : Int)) := nl_get (by rw [order_len]; exact hlt)
    have rl := rowsK_len l (k := k) (by omega)
    have rin : ∀ j, j < (rowsK l k).length → ((rowsK l k).getD j []).length ≤ 40 := fun j hj => by
      have := row_len (l := l) (k := k) (by omega) j
      omega
    have q86 := pc86 l (rowsK l k) (od l k) (fun r hr => ⟨Rk.ne r hr, by
      obtain ⟨j, hj, e⟩ := Rk.mem r hr _ (last_mem (Rk.ne r hr))
      rw [← e]; exact order_get (by omega), by
      obtain ⟨j, hj, e⟩ := List.getElem_of_mem hr
      have := rin j hj
      rw [getD_lt hj, e] at this; omega⟩) hx (by omega)
    have hat := rowsK_at hlt
    have hfl := rowAt_le l k
    have hfi : fitI l (rowsK l k) (od l k) = if rowAt l k < (rowsK l k).length then (rowAt l k : Int) else -1 := rfl
    have hund : undK l k = (if rowAt l k = 0 then (-1 : Int) else ((lastN ((rowsK l k).getD (rowAt l k - 1) []) : Nat) : Int)) := rfl
    have now : ∀ h2 : AH, (∀ t b, h.m t = some b → h2.m t = some b) → Now h2 (.sl r 0 (rowsK l k).length 1) (vRows (rowsK l k)) := fun h2 F => by
      have := (N.keep F).now rw_plain 1
      rwa [Nl, rv_map] at this
    rw [hfi] at q86
    generalize hfx : rowAt l k = f at *
    have usl : od l k < us.length := by omega
    by_cases hf : f < (rowsK l k).length
    · rw [if_pos hf] at q86 hat
      have cf := N.cell (i := f) (by omega)
      rw [rD_map hf] at cf
      have hf' : (f : Int) < (rowsK l k).length := by omega
      have nf : ¬ (f : Int) < 0 := by omega
      have tf := N.row (i := f) (by omega)
      rw [rD_map hf] at tf
      have mf := N.mem (i := f) (by omega)
      have ltf := tlt _ mf
      have nef := N.ne (i := f) (by omega)
      have nefu : ¬ tD ts f = u := fun e => un (e ▸ mf)
      have rlf := rin f hf
      have csl := rC_len (k := 1) N.len
      rw [Nl] at csl
      simp only at cf tf
      generalize hcs : rC 1 ts ((rowsK l k).map rw1) = cs at hr cf csl
      have hlen1 : (rowsK l (k + 1)).length = (rowsK l k).length := by rw [hat, List.length_set]
      have e0 : rw1 ((rowsK l k).getD f [] ++ [od l k]) = (((rowsK l k).getD f []).length + 1, nl ((rowsK l k).getD f [] ++ [od l k])) := by simp [rw1]
      have hn1 : (((rowsK l k).getD f []).length + 1) * 1 = (nl ((rowsK l k).getD f [] ++ [od l k])).length := by simp [nl_len]
      cases f with
      | zero =>
        have h0 : ¬ (0 : Int) < ((0 : Nat) : Int) := by omega
        rw [if_pos rfl] at hund
        repeat' first | (with_reducible first | refine k_seq ?_ | refine k_skip ?_ | refine k_blkS ?_ | refine k_blkR ?_ | refine k_blkC ?_ | refine k_blkH ?_ | refine k_blkB ?_ | refine k_blkK ?_ | refine k_blkE ?_ | refine k_reg ?_) | with_reducible refine k_head (by with_unfolding_all rfl) ?_ | with_reducible refine k_headS ?_ | (with_reducible refine SepK.mk ?_ ?_; (refine sepQ_P ?_; simp [sepQ, sepG, AOp.late, AOp.free, AOp.xs, AOp.isAl, tokNe, AV.tok, stS_get, strip, AX.val, RG52, GA]; try omega)) | with_reducible refine r_done ?_ | with_reducible refine hr_done ?_ | with_reducible refine s_go (by simp (disch := omega) only [hlt', gx, hx, hr, row_m hr, read_row (row_m hr), hu, row_m hu, read_row (row_m hu), csl, hul, usl, nl_len, nl_snoc, tf, row_m tf, read_row (row_m tf), cf, nf, hf', h0, RG52, EVA, plug, ite_same, decide_true, decide_false, eq_self, simprocAttr]; with_reducible rfl) ?_ | with_reducible refine h_go (by with_unfolding_all rfl) (by simp (disch := omega) only [hlt', gx, hx, hr, row_m hr, read_row (row_m hr), hu, row_m hu, read_row (row_m hu), csl, hul, usl, nl_len, nl_snoc, tf, row_m tf, read_row (row_m tf), cf, nf, hf', h0, RG52, EVA, plug, ite_same, decide_true, decide_false, eq_self, simprocAttr]; with_reducible rfl) ?_ | ((with_reducible refine chk_r ?_); refine r_callF (by simp only [CA, Nat.reduceEqDiff, ↓reduceIte]; rfl) (by exact rfl) (by simp only [CA, Nat.reduceEqDiff, ↓reduceIte]; rfl) rfl ?_) | ((with_reducible refine chk_h ?_); refine hr_callF (by simp only [CA, Nat.reduceEqDiff, ↓reduceIte]; rfl) (by exact rfl) (by simp only [CA, Nat.reduceEqDiff, ↓reduceIte]; rfl) rfl ?_) | ((with_reducible refine chk_r ?_); refine r_callP (by simp only [CA, Nat.reduceEqDiff, ↓reduceIte]; rfl) (by simp only [CA, Nat.reduceEqDiff, ↓reduceIte]; rfl) (by first | ((refine PC.at q86 rfl ?_; refine .cons (now _ ?_) (.cons (.fn .nil (.cons (.same (by simp only [AV.plain, AV.plains, flB_plain, Bool.and_true])) (.cons (.p (by simp (disch := omega) only [RG52, EVA, plug, ite_same, decide_true, decide_false, eq_self, simprocAttr] <;> rfl) (Nows.same rfl)) .nil))) .nil); intro t b hb; have := ok.m hb; simp (disch := omega) only [hb, RG52, EVA, plug, ite_same, decide_true, decide_false, eq_self, simprocAttr]); all_goals fail)) rfl ?_) | ((with_reducible refine chk_h ?_); refine hr_callP (by simp only [CA, Nat.reduceEqDiff, ↓reduceIte]; rfl) (by simp only [CA, Nat.reduceEqDiff, ↓reduceIte]; rfl) (by first | ((refine PC.at q86 rfl ?_; refine .cons (now _ ?_) (.cons (.fn .nil (.cons (.same (by simp only [AV.plain, AV.plains, flB_plain, Bool.and_true])) (.cons (.p (by simp (disch := omega) only [RG52, EVA, plug, ite_same, decide_true, decide_false, eq_self, simprocAttr] <;> rfl) (Nows.same rfl)) .nil))) .nil); intro t b hb; have := ok.m hb; simp (disch := omega) only [hb, RG52, EVA, plug, ite_same, decide_true, decide_false, eq_self, simprocAttr]); all_goals fail)) rfl ?_) | ((with_reducible refine chk_h ?_); refine hr_callP1 (by simp only [CA, Nat.reduceEqDiff, ↓reduceIte]; rfl) (by simp only [CA, Nat.reduceEqDiff, ↓reduceIte]; rfl) (by simp (disch := omega) only [CA, Nat.reduceEqDiff, ↓reduceIte, firstTok_nil, firstTok_sl, firstTok_sl0, firstTok_i, firstTok_b, firstTok_ag, firstTok_p, firstTok_s]; rfl) (by first | ((refine PC.at q86 rfl ?_; refine .cons (now _ ?_) (.cons (.fn .nil (.cons (.same (by simp only [AV.plain, AV.plains, flB_plain, Bool.and_true])) (.cons (.p (by simp (disch := omega) only [RG52, EVA, plug, ite_same, decide_true, decide_false, eq_self, simprocAttr] <;> rfl) (Nows.same rfl)) .nil))) .nil); intro t b hb; have := ok.m hb; simp (disch := omega) only [hb, RG52, EVA, plug, ite_same, decide_true, decide_false, eq_self, simprocAttr]); all_goals fail)) rfl ?_) | ((with_reducible refine chk_h ?_); refine hr_app (by simp (disch := omega) only [hlt', gx, hx, hr, row_m hr, read_row (row_m hr), hu, row_m hu, read_row (row_m hu), csl, hul, usl, nl_len, nl_snoc, tf, row_m tf, read_row (row_m tf), cf, nf, hf', h0, RG52, EVA, plug, ite_same, decide_true, decide_false, eq_self, simprocAttr]; with_reducible rfl) rfl ?_) | (with_reducible refine k_condP (by simp only [GA, Nat.reduceEqDiff, ↓reduceIte]; rfl) (by first | (simp only [BO]; rfl) | rfl) (fun ht => ?_) (fun ht => ?_) <;> try (first | exact False.elim ht | exact absurd rfl ht | exact absurd trivial ht | exact Bool.noConfusion ht)) | (with_reducible refine k_ret ?_; repeat with_reducible (first | refine ret_thru ?_ | refine ret_blk ?_ | refine fin ?_)) | (with_reducible refine k_exit ?_; repeat with_reducible (first | refine thru ?_ | refine out_blk ?_ | refine pass (by decide) ?_)) | ((first | refine post1 ?_ | refine post2 ?_ | refine post3 ?_); simp only [GA, Nat.reduceEqDiff, ↓reduceIte]) | (refine postc (by simp only [GA, Nat.reduceEqDiff, ↓reduceIte]; rfl) (by simp (disch := omega) only [hlt', gx, hx, hr, row_m hr, read_row (row_m hr), hu, row_m hu, read_row (row_m hu), csl, hul, usl, nl_len, nl_snoc, tf, row_m tf, read_row (row_m tf), cf, nf, hf', h0, RG52, EVA, plug, ite_same, decide_true, decide_false, eq_self, simprocAttr]; rfl) ?_) | refine post0 ?_
        refine ⟨hlt, ⟨r, ts.set 0 (h.nx + 1 + 4 + 4 + 2 + 4 + 2 + 8), u, (us.set (od l k) (-1))⟩, ?g1, ?g2, u0, ur, ?g3, ?g4, ?g5, ?g6⟩
        case g1 =>
          simp only [Am.keep, List.map_cons, List.map_nil, GA, Nat.reduceEqDiff, ↓reduceIte, hlen1]
          rfl
        case g2 =>
          rw [hat, List.map_set, e0]
          refine N.put (by omega) hn1 (by omega) (by omega) (fun hm => by have := tlt _ hm; omega) (by rw [hcs]; simp (disch := omega) only [RG52, EVA, plug, ite_same, decide_true, decide_false, eq_self, simprocAttr] <;> rfl) (by simp (disch := omega) only [RG52, EVA, plug, ite_same, decide_true, decide_false, eq_self, simprocAttr] <;> rfl) fun s b hs hne hb => ?_
          have l1 := tlt s hs
          have n1 := (N.nr s hs).2
          have n2 : ¬ s = u := fun e => un (e ▸ hs)
          simp (disch := omega) only [hb, RG52, EVA, plug, ite_same, decide_true, decide_false, eq_self, simprocAttr]
        case g3 =>
          intro hm
          rcases List.mem_or_eq_of_mem_set hm with q | q
          · exact un q
          · simp only [] at q; omega
        case g4 => simp (disch := omega) only [hu, List.set_set, RG52, EVA, plug, ite_same, decide_true, decide_false, eq_self, simprocAttr] <;> rfl
        case g5 => simp only [List.length_set]; exact hul
        case g6 => exact us_step hul hlt hus (by rw [hund]; try rfl)
      | succ f =>
        have h0 : (0 : Int) < ((f + 1 : Nat) : Int) := by omega
        rw [if_neg (by omega), Nat.add_sub_cancel] at hund
        have e1 : ((f + 1 : Nat) : Int) - 1 = (f : Int) := by omega
        have hg : f < (rowsK l k).length := by omega
        have hg' : (f : Int) < (rowsK l k).length := by omega
        have cg := N.cell (i := f) (by omega)
        rw [rD_map hg, hcs] at cg
        have tg := N.row (i := f) (by omega)
        rw [rD_map hg] at tg
        have mg := N.mem (i := f) (by omega)
        have ltg := tlt _ mg
        have neg := N.ne (i := f) (by omega)
        have negu : ¬ tD ts f = u := fun e => un (e ▸ mg)
        have rlg := rin f hg
        have hne := Rk.ne _ (mem_row hg)
        have hp : 0 < ((rowsK l k).getD f []).length := List.length_pos_iff.2 hne
        have e2 : (((rowsK l k).getD f []).length : Int) - 1 = ((((rowsK l k).getD f []).length - 1 : Nat) : Int) := by omega
        have e3 : ((rowsK l k).getD f []).length - 1 < ((rowsK l k).getD f []).length := by omega
        have g := last_get hne
        simp only at cg tg
        repeat' first | (with_reducible first | refine k_seq ?_ | refine k_skip ?_ | refine k_blkS ?_ | refine k_blkR ?_ | refine k_blkC ?_ | refine k_blkH ?_ | refine k_blkB ?_ | refine k_blkK ?_ | refine k_blkE ?_ | refine k_reg ?_) | with_reducible refine k_head (by with_unfolding_all rfl) ?_ | with_reducible refine k_headS ?_ | (with_reducible refine SepK.mk ?_ ?_; (refine sepQ_P ?_; simp [sepQ, sepG, AOp.late, AOp.free, AOp.xs, AOp.isAl, tokNe, AV.tok, stS_get, strip, AX.val, RG52, GA]; try omega)) | with_reducible refine r_done ?_ | with_reducible refine hr_done ?_ | with_reducible refine s_go (by simp (disch := omega) only [hlt', gx, hx, hr, row_m hr, read_row (row_m hr), hu, row_m hu, read_row (row_m hu), csl, hul, usl, nl_len, nl_snoc, tf, row_m tf, read_row (row_m tf), cf, nf, hf', h0, e1, hg', tg, row_m tg, read_row (row_m tg), cg, e2, e3, g, List.set_set, List.length_set, RG52, EVA, plug, ite_same, decide_true, decide_false, eq_self, simprocAttr]; with_reducible rfl) ?_ | with_reducible refine h_go (by with_unfolding_all rfl) (by simp (disch := omega) only [hlt', gx, hx, hr, row_m hr, read_row (row_m hr), hu, row_m hu, read_row (row_m hu), csl, hul, usl, nl_len, nl_snoc, tf, row_m tf, read_row (row_m tf), cf, nf, hf', h0, e1, hg', tg, row_m tg, read_row (row_m tg), cg, e2, e3, g, List.set_set, List.length_set, RG52, EVA, plug, ite_same, decide_true, decide_false, eq_self, simprocAttr]; with_reducible rfl) ?_ | ((with_reducible refine chk_r ?_); refine r_callF (by simp only [CA, Nat.reduceEqDiff, ↓reduceIte]; rfl) (by exact rfl) (by simp only [CA, Nat.reduceEqDiff, ↓reduceIte]; rfl) rfl ?_) | ((with_reducible refine chk_h ?_); refine hr_callF (by simp only [CA, Nat.reduceEqDiff, ↓reduceIte]; rfl) (by exact rfl) (by simp only [CA, Nat.reduceEqDiff, ↓reduceIte]; rfl) rfl ?_) | ((with_reducible refine chk_r ?_); refine r_callP (by simp only [CA, Nat.reduceEqDiff, ↓reduceIte]; rfl) (by simp only [CA, Nat.reduceEqDiff, ↓reduceIte]; rfl) (by first | ((refine PC.at q86 rfl ?_; refine .cons (now _ ?_) (.cons (.fn .nil (.cons (.same (by simp only [AV.plain, AV.plains, flB_plain, Bool.and_true])) (.cons (.p (by simp (disch := omega) only [RG52, EVA, plug, ite_same, decide_true, decide_false, eq_self, simprocAttr] <;> rfl) (Nows.same rfl)) .nil))) .nil); intro t b hb; have := ok.m hb; simp (disch := omega) only [hb, RG52, EVA, plug, ite_same, decide_true, decide_false, eq_self, simprocAttr]); all_goals fail)) rfl ?_) | ((with_reducible refine chk_h ?_); refine hr_callP (by simp only [CA, Nat.reduceEqDiff, ↓reduceIte]; rfl) (by simp only [CA, Nat.reduceEqDiff, ↓reduceIte]; rfl) (by first | ((refine PC.at q86 rfl ?_; refine .cons (now _ ?_) (.cons (.fn .nil (.cons (.same (by simp only [AV.plain, AV.plains, flB_plain, Bool.and_true])) (.cons (.p (by simp (disch := omega) only [RG52, EVA, plug, ite_same, decide_true, decide_false, eq_self, simprocAttr] <;> rfl) (Nows.same rfl)) .nil))) .nil); intro t b hb; have := ok.m hb; simp (disch := omega) only [hb, RG52, EVA, plug, ite_same, decide_true, decide_false, eq_self, simprocAttr]); all_goals fail)) rfl ?_) | ((with_reducible refine chk_h ?_); refine hr_callP1 (by simp only [CA, Nat.reduceEqDiff, ↓reduceIte]; rfl) (by simp only [CA, Nat.reduceEqDiff, ↓reduceIte]; rfl) (by simp (disch := omega) only [CA, Nat.reduceEqDiff, ↓reduceIte, firstTok_nil, firstTok_sl, firstTok_sl0, firstTok_i, firstTok_b, firstTok_ag, firstTok_p, firstTok_s]; rfl) (by first | ((refine PC.at q86 rfl ?_; refine .cons (now _ ?_) (.cons (.fn .nil (.cons (.same (by simp only [AV.plain, AV.plains, flB_plain, Bool.and_true])) (.cons (.p (by simp (disch := omega) only [RG52, EVA, plug, ite_same, decide_true, decide_false, eq_self, simprocAttr] <;> rfl) (Nows.same rfl)) .nil))) .nil); intro t b hb; have := ok.m hb; simp (disch := omega) only [hb, RG52, EVA, plug, ite_same, decide_true, decide_false, eq_self, simprocAttr]); all_goals fail)) rfl ?_) | ((with_reducible refine chk_h ?_); refine hr_app (by simp (disch := omega) only [hlt', gx, hx, hr, row_m hr, read_row (row_m hr), hu, row_m hu, read_row (row_m hu), csl, hul, usl, nl_len, nl_snoc, tf, row_m tf, read_row (row_m tf), cf, nf, hf', h0, e1, hg', tg, row_m tg, read_row (row_m tg), cg, e2, e3, g, List.set_set, List.length_set, RG52, EVA, plug, ite_same, decide_true, decide_false, eq_self, simprocAttr]; with_reducible rfl) rfl ?_) | (with_reducible refine k_condP (by simp only [GA, Nat.reduceEqDiff, ↓reduceIte]; rfl) (by first | (simp only [BO]; rfl) | rfl) (fun ht => ?_) (fun ht => ?_) <;> try (first | exact False.elim ht | exact absurd rfl ht | exact absurd trivial ht | exact Bool.noConfusion ht)) | (with_reducible refine k_ret ?_; repeat with_reducible (first | refine ret_thru ?_ | refine ret_blk ?_ | refine fin ?_)) | (with_reducible refine k_exit ?_; repeat with_reducible (first | refine thru ?_ | refine out_blk ?_ | refine pass (by decide) ?_)) | ((first | refine post1 ?_ | refine post2 ?_ | refine post3 ?_); simp only [GA, Nat.reduceEqDiff, ↓reduceIte]) | (refine postc (by simp only [GA, Nat.reduceEqDiff, ↓reduceIte]; rfl) (by simp (disch := omega) only [hlt', gx, hx, hr, row_m hr, read_row (row_m hr), hu, row_m hu, read_row (row_m hu), csl, hul, usl, nl_len, nl_snoc, tf, row_m tf, read_row (row_m tf), cf, nf, hf', h0, e1, hg', tg, row_m tg, read_row (row_m tg), cg, e2, e3, g, List.set_set, List.length_set, RG52, EVA, plug, ite_same, decide_true, decide_false, eq_self, simprocAttr]; rfl) ?_) | refine post0 ?_
        refine ⟨hlt, ⟨r, ts.set (f + 1) (h.nx + 1 + 4 + 4 + 2 + 4 + 2 + 6 + 10 + 8), u, (us.set (od l k) ((lastN ((rowsK l k).getD f []) : Nat) : Int))⟩, ?g1, ?g2, u0, ur, ?g3, ?g4, ?g5, ?g6⟩
        case g1 =>
          simp only [Am.keep, List.map_cons, List.map_nil, GA, Nat.reduceEqDiff, ↓reduceIte, hlen1]
          rfl
        case g2 =>
          rw [hat, List.map_set, e0]
          refine N.put (by omega) hn1 (by omega) (by omega) (fun hm => by have := tlt _ hm; omega) (by rw [hcs]; simp (disch := omega) only [RG52, EVA, plug, ite_same, decide_true, decide_false, eq_self, simprocAttr] <;> rfl) (by simp (disch := omega) only [RG52, EVA, plug, ite_same, decide_true, decide_false, eq_self, simprocAttr] <;> rfl) fun s b hs hne hb => ?_
          have l1 := tlt s hs
          have n1 := (N.nr s hs).2
          have n2 : ¬ s = u := fun e => un (e ▸ hs)
          simp (disch := omega) only [hb, RG52, EVA, plug, ite_same, decide_true, decide_false, eq_self, simprocAttr]
        case g3 =>
          intro hm
          rcases List.mem_or_eq_of_mem_set hm with q | q
          · exact un q
          · simp only [] at q; omega
        case g4 => simp (disch := omega) only [hu, List.set_set, RG52, EVA, plug, ite_same, decide_true, decide_false, eq_self, simprocAttr] <;> rfl
        case g5 => simp only [List.length_set]; exact hul
        case g6 => exact us_step hul hlt hus (by rw [hund]; try rfl)
    · rw [if_neg hf] at q86 hat
      have hfe : f = (rowsK l k).length := by omega
      have csl := rC_len (k := 1) N.len
      rw [Nl] at csl
      have hlen1 : (rowsK l (k + 1)).length = (rowsK l k).length + 1 := by rw [hat]; simp
      have e0 : [[od l k]].map rw1 = [(1, nl [od l k])] := rfl
      have c0 : ∀ cs : List AV, cs.length = (rowsK l k).length → (cs ++ [AV.sl 0 0 0 0])[(rowsK l k).length]? = some (.sl 0 0 0 0) := fun cs h => get_last h
      have lt1 : ((rowsK l k).length : Int) < (((rowsK l k).length + 1 : Nat) : Int) := by omega
      have sx : ∀ x : Nat, ([AV.i .i64 (x : Int)] : List AV) = nl [x] := fun x => rfl
      cases f with
      | zero =>
        have z : (rowsK l k).length = 0 := by omega
        have h0 : ¬ (0 : Int) < ((rowsK l k).length : Int) := by omega
        rw [if_pos rfl] at hund
        generalize hcs : rC 1 ts ((rowsK l k).map rw1) = cs at hr csl
        have c0 := c0 cs csl
        have c2 : (cs ++ [AV.sl 0 0 0 0]).length = (rowsK l k).length + 1 := by rw [List.length_append, csl]; rfl
        repeat' first | (with_reducible first | refine k_seq ?_ | refine k_skip ?_ | refine k_blkS ?_ | refine k_blkR ?_ | refine k_blkC ?_ | refine k_blkH ?_ | refine k_blkB ?_ | refine k_blkK ?_ | refine k_blkE ?_ | refine k_reg ?_) | with_reducible refine k_head (by with_unfolding_all rfl) ?_ | with_reducible refine k_headS ?_ | (with_reducible refine SepK.mk ?_ ?_; (refine sepQ_P ?_; simp [sepQ, sepG, AOp.late, AOp.free, AOp.xs, AOp.isAl, tokNe, AV.tok, stS_get, strip, AX.val, RG52, GA]; try omega)) | with_reducible refine r_done ?_ | with_reducible refine hr_done ?_ | with_reducible refine s_go (by simp (disch := omega) only [hlt', gx, hx, hr, row_m hr, read_row (row_m hr), hu, row_m hu, read_row (row_m hu), csl, hul, usl, nl_len, nl_snoc, h0, c0, c2, lt1, RG52, EVA, plug, ite_same, decide_true, decide_false, eq_self, simprocAttr]; with_reducible rfl) ?_ | with_reducible refine h_go (by with_unfolding_all rfl) (by simp (disch := omega) only [hlt', gx, hx, hr, row_m hr, read_row (row_m hr), hu, row_m hu, read_row (row_m hu), csl, hul, usl, nl_len, nl_snoc, h0, c0, c2, lt1, RG52, EVA, plug, ite_same, decide_true, decide_false, eq_self, simprocAttr]; with_reducible rfl) ?_ | ((with_reducible refine chk_r ?_); refine r_callF (by simp only [CA, Nat.reduceEqDiff, ↓reduceIte]; rfl) (by exact rfl) (by simp only [CA, Nat.reduceEqDiff, ↓reduceIte]; rfl) rfl ?_) | ((with_reducible refine chk_h ?_); refine hr_callF (by simp only [CA, Nat.reduceEqDiff, ↓reduceIte]; rfl) (by exact rfl) (by simp only [CA, Nat.reduceEqDiff, ↓reduceIte]; rfl) rfl ?_) | ((with_reducible refine chk_r ?_); refine r_callP (by simp only [CA, Nat.reduceEqDiff, ↓reduceIte]; rfl) (by simp only [CA, Nat.reduceEqDiff, ↓reduceIte]; rfl) (by first | ((refine PC.at q86 rfl ?_; refine .cons (now _ ?_) (.cons (.fn .nil (.cons (.same (by simp only [AV.plain, AV.plains, flB_plain, Bool.and_true])) (.cons (.p (by simp (disch := omega) only [RG52, EVA, plug, ite_same, decide_true, decide_false, eq_self, simprocAttr] <;> rfl) (Nows.same rfl)) .nil))) .nil); intro t b hb; have := ok.m hb; simp (disch := omega) only [hb, RG52, EVA, plug, ite_same, decide_true, decide_false, eq_self, simprocAttr]); all_goals fail)) rfl ?_) | ((with_reducible refine chk_h ?_); refine hr_callP (by simp only [CA, Nat.reduceEqDiff, ↓reduceIte]; rfl) (by simp only [CA, Nat.reduceEqDiff, ↓reduceIte]; rfl) (by first | ((refine PC.at q86 rfl ?_; refine .cons (now _ ?_) (.cons (.fn .nil (.cons (.same (by simp only [AV.plain, AV.plains, flB_plain, Bool.and_true])) (.cons (.p (by simp (disch := omega) only [RG52, EVA, plug, ite_same, decide_true, decide_false, eq_self, simprocAttr] <;> rfl) (Nows.same rfl)) .nil))) .nil); intro t b hb; have := ok.m hb; simp (disch := omega) only [hb, RG52, EVA, plug, ite_same, decide_true, decide_false, eq_self, simprocAttr]); all_goals fail)) rfl ?_) | ((with_reducible refine chk_h ?_); refine hr_callP1 (by simp only [CA, Nat.reduceEqDiff, ↓reduceIte]; rfl) (by simp only [CA, Nat.reduceEqDiff, ↓reduceIte]; rfl) (by simp (disch := omega) only [CA, Nat.reduceEqDiff, ↓reduceIte, firstTok_nil, firstTok_sl, firstTok_sl0, firstTok_i, firstTok_b, firstTok_ag, firstTok_p, firstTok_s]; rfl) (by first | ((refine PC.at q86 rfl ?_; refine .cons (now _ ?_) (.cons (.fn .nil (.cons (.same (by simp only [AV.plain, AV.plains, flB_plain, Bool.and_true])) (.cons (.p (by simp (disch := omega) only [RG52, EVA, plug, ite_same, decide_true, decide_false, eq_self, simprocAttr] <;> rfl) (Nows.same rfl)) .nil))) .nil); intro t b hb; have := ok.m hb; simp (disch := omega) only [hb, RG52, EVA, plug, ite_same, decide_true, decide_false, eq_self, simprocAttr]); all_goals fail)) rfl ?_) | ((with_reducible refine chk_h ?_); refine hr_app (by simp (disch := omega) only [hlt', gx, hx, hr, row_m hr, read_row (row_m hr), hu, row_m hu, read_row (row_m hu), csl, hul, usl, nl_len, nl_snoc, h0, c0, c2, lt1, RG52, EVA, plug, ite_same, decide_true, decide_false, eq_self, simprocAttr]; with_reducible rfl) rfl ?_) | (with_reducible refine k_condP (by simp only [GA, Nat.reduceEqDiff, ↓reduceIte]; rfl) (by first | (simp only [BO]; rfl) | rfl) (fun ht => ?_) (fun ht => ?_) <;> try (first | exact False.elim ht | exact absurd rfl ht | exact absurd trivial ht | exact Bool.noConfusion ht)) | (with_reducible refine k_ret ?_; repeat with_reducible (first | refine ret_thru ?_ | refine ret_blk ?_ | refine fin ?_)) | (with_reducible refine k_exit ?_; repeat with_reducible (first | refine thru ?_ | refine out_blk ?_ | refine pass (by decide) ?_)) | ((first | refine post1 ?_ | refine post2 ?_ | refine post3 ?_); simp only [GA, Nat.reduceEqDiff, ↓reduceIte]) | (refine postc (by simp only [GA, Nat.reduceEqDiff, ↓reduceIte]; rfl) (by simp (disch := omega) only [hlt', gx, hx, hr, row_m hr, read_row (row_m hr), hu, row_m hu, read_row (row_m hu), csl, hul, usl, nl_len, nl_snoc, h0, c0, c2, lt1, RG52, EVA, plug, ite_same, decide_true, decide_false, eq_self, simprocAttr]; rfl) ?_) | refine post0 ?_
        refine ⟨hlt, ⟨(h.nx + 1 + 4 + 4 + 2 + 3 + 2), ts ++ [(h.nx + 1 + 4 + 4 + 2 + 3 + 4 + 4 + 2 + 8)], u, (us.set (od l k) (-1))⟩, ?g1, ?g2, u0, ?g7, ?g3, ?g4, ?g5, ?g6⟩
        case g1 =>
          simp only [Am.keep, List.map_cons, List.map_nil, GA, Nat.reduceEqDiff, ↓reduceIte, hlen1]
          rfl
        case g2 =>
          rw [hat, List.map_append, e0]
          refine N.snoc (n := 1) (cs := nl [od l k]) rfl (by omega) (by omega) (by omega) (fun hm => by have := tlt _ hm; omega) (fun hm => by have := tlt _ hm; omega) (by rw [hcs]; simp (disch := omega) only [set_last csl, RG52, EVA, plug, ite_same, decide_true, decide_false, eq_self, simprocAttr] <;> rfl) (by simp (disch := omega) only [RG52, EVA, plug, ite_same, decide_true, decide_false, eq_self, simprocAttr] <;> rfl) fun s b hs hb => ?_
          have l1 := tlt s hs
          have n1 := (N.nr s hs).2
          have n2 : ¬ s = u := fun e => un (e ▸ hs)
          simp (disch := omega) only [hb, RG52, EVA, plug, ite_same, decide_true, decide_false, eq_self, simprocAttr]
        case g7 => simp only []; omega
        case g3 =>
          intro hm
          rcases List.mem_append.1 hm with q | q
          · exact un q
          · rw [List.mem_singleton] at q; simp only [] at q; omega
        case g4 => simp (disch := omega) only [hu, List.set_set, RG52, EVA, plug, ite_same, decide_true, decide_false, eq_self, simprocAttr] <;> rfl
        case g5 => simp only [List.length_set]; exact hul
        case g6 => exact us_step hul hlt hus (by rw [hund]; try rfl)
      | succ f =>
        have h0 : (0 : Int) < ((rowsK l k).length : Int) := by omega
        rw [if_neg (by omega), Nat.add_sub_cancel] at hund
        have e1 : ((rowsK l k).length : Int) - 1 = (f : Int) := by omega
        have hg : f < (rowsK l k).length := by omega
        have hg' : (f : Int) < (((rowsK l k).length + 1 : Nat) : Int) := by omega
        have cg := N.cell (i := f) (by omega)
        rw [rD_map hg] at cg
        have tg := N.row (i := f) (by omega)
        rw [rD_map hg] at tg
        have mg := N.mem (i := f) (by omega)
        have ltg := tlt _ mg
        have neg := N.ne (i := f) (by omega)
        have negu : ¬ tD ts f = u := fun e => un (e ▸ mg)
        have rlg := rin f hg
        have hne := Rk.ne _ (mem_row hg)
        have hp : 0 < ((rowsK l k).getD f []).length := List.length_pos_iff.2 hne
        have e2 : (((rowsK l k).getD f []).length : Int) - 1 = ((((rowsK l k).getD f []).length - 1 : Nat) : Int) := by omega
        have e3 : ((rowsK l k).getD f []).length - 1 < ((rowsK l k).getD f []).length := by omega
        have g := last_get hne
        simp only at cg tg
        generalize hcs : rC 1 ts ((rowsK l k).map rw1) = cs at hr csl cg
        have c0 := c0 cs csl
        have c2 : (cs ++ [AV.sl 0 0 0 0]).length = (rowsK l k).length + 1 := by rw [List.length_append, csl]; rfl
        have c1 := get_low (z := .sl 0 0 0 0) cg
        repeat' first | (with_reducible first | refine k_seq ?_ | refine k_skip ?_ | refine k_blkS ?_ | refine k_blkR ?_ | refine k_blkC ?_ | refine k_blkH ?_ | refine k_blkB ?_ | refine k_blkK ?_ | refine k_blkE ?_ | refine k_reg ?_) | with_reducible refine k_head (by with_unfolding_all rfl) ?_ | with_reducible refine k_headS ?_ | (with_reducible refine SepK.mk ?_ ?_; (refine sepQ_P ?_; simp [sepQ, sepG, AOp.late, AOp.free, AOp.xs, AOp.isAl, tokNe, AV.tok, stS_get, strip, AX.val, RG52, GA]; try omega)) | with_reducible refine r_done ?_ | with_reducible refine hr_done ?_ | with_reducible refine s_go (by simp (disch := omega) only [hlt', gx, hx, hr, row_m hr, read_row (row_m hr), hu, row_m hu, read_row (row_m hu), csl, hul, usl, nl_len, nl_snoc, h0, c0, c2, lt1, e1, hg', tg, row_m tg, read_row (row_m tg), c1, e2, e3, g, List.set_set, List.length_set, RG52, EVA, plug, ite_same, decide_true, decide_false, eq_self, simprocAttr]; with_reducible rfl) ?_ | with_reducible refine h_go (by with_unfolding_all rfl) (by simp (disch := omega) only [hlt', gx, hx, hr, row_m hr, read_row (row_m hr), hu, row_m hu, read_row (row_m hu), csl, hul, usl, nl_len, nl_snoc, h0, c0, c2, lt1, e1, hg', tg, row_m tg, read_row (row_m tg), c1, e2, e3, g, List.set_set, List.length_set, RG52, EVA, plug, ite_same, decide_true, decide_false, eq_self, simprocAttr]; with_reducible rfl) ?_ | ((with_reducible refine chk_r ?_); refine r_callF (by simp only [CA, Nat.reduceEqDiff, ↓reduceIte]; rfl) (by exact rfl) (by simp only [CA, Nat.reduceEqDiff, ↓reduceIte]; rfl) rfl ?_) | ((with_reducible refine chk_h ?_); refine hr_callF (by simp only [CA, Nat.reduceEqDiff, ↓reduceIte]; rfl) (by exact rfl) (by simp only [CA, Nat.reduceEqDiff, ↓reduceIte]; rfl) rfl ?_) | ((with_reducible refine chk_r ?_); refine r_callP (by simp only [CA, Nat.reduceEqDiff, ↓reduceIte]; rfl) (by simp only [CA, Nat.reduceEqDiff, ↓reduceIte]; rfl) (by first | ((refine PC.at q86 rfl ?_; refine .cons (now _ ?_) (.cons (.fn .nil (.cons (.same (by simp only [AV.plain, AV.plains, flB_plain, Bool.and_true])) (.cons (.p (by simp (disch := omega) only [RG52, EVA, plug, ite_same, decide_true, decide_false, eq_self, simprocAttr] <;> rfl) (Nows.same rfl)) .nil))) .nil); intro t b hb; have := ok.m hb; simp (disch := omega) only [hb, RG52, EVA, plug, ite_same, decide_true, decide_false, eq_self, simprocAttr]); all_goals fail)) rfl ?_) | ((with_reducible refine chk_h ?_); refine hr_callP (by simp only [CA, Nat.reduceEqDiff, ↓reduceIte]; rfl) (by simp only [CA, Nat.reduceEqDiff, ↓reduceIte]; rfl) (by first | ((refine PC.at q86 rfl ?_; refine .cons (now _ ?_) (.cons (.fn .nil (.cons (.same (by simp only [AV.plain, AV.plains, flB_plain, Bool.and_true])) (.cons (.p (by simp (disch := omega) only [RG52, EVA, plug, ite_same, decide_true, decide_false, eq_self, simprocAttr] <;> rfl) (Nows.same rfl)) .nil))) .nil); intro t b hb; have := ok.m hb; simp (disch := omega) only [hb, RG52, EVA, plug, ite_same, decide_true, decide_false, eq_self, simprocAttr]); all_goals fail)) rfl ?_) | ((with_reducible refine chk_h ?_); refine hr_callP1 (by simp only [CA, Nat.reduceEqDiff, ↓reduceIte]; rfl) (by simp only [CA, Nat.reduceEqDiff, ↓reduceIte]; rfl) (by simp (disch := omega) only [CA, Nat.reduceEqDiff, ↓reduceIte, firstTok_nil, firstTok_sl, firstTok_sl0, firstTok_i, firstTok_b, firstTok_ag, firstTok_p, firstTok_s]; rfl) (by first | ((refine PC.at q86 rfl ?_; refine .cons (now _ ?_) (.cons (.fn .nil (.cons (.same (by simp only [AV.plain, AV.plains, flB_plain, Bool.and_true])) (.cons (.p (by simp (disch := omega) only [RG52, EVA, plug, ite_same, decide_true, decide_false, eq_self, simprocAttr] <;> rfl) (Nows.same rfl)) .nil))) .nil); intro t b hb; have := ok.m hb; simp (disch := omega) only [hb, RG52, EVA, plug, ite_same, decide_true, decide_false, eq_self, simprocAttr]); all_goals fail)) rfl ?_) | ((with_reducible refine chk_h ?_); refine hr_app (by simp (disch := omega) only [hlt', gx, hx, hr, row_m hr, read_row (row_m hr), hu, row_m hu, read_row (row_m hu), csl, hul, usl, nl_len, nl_snoc, h0, c0, c2, lt1, e1, hg', tg, row_m tg, read_row (row_m tg), c1, e2, e3, g, List.set_set, List.length_set, RG52, EVA, plug, ite_same, decide_true, decide_false, eq_self, simprocAttr]; with_reducible rfl) rfl ?_) | (with_reducible refine k_condP (by simp only [GA, Nat.reduceEqDiff, ↓reduceIte]; rfl) (by first | (simp only [BO]; rfl) | rfl) (fun ht => ?_) (fun ht => ?_) <;> try (first | exact False.elim ht | exact absurd rfl ht | exact absurd trivial ht | exact Bool.noConfusion ht)) | (with_reducible refine k_ret ?_; repeat with_reducible (first | refine ret_thru ?_ | refine ret_blk ?_ | refine fin ?_)) | (with_reducible refine k_exit ?_; repeat with_reducible (first | refine thru ?_ | refine out_blk ?_ | refine pass (by decide) ?_)) | ((first | refine post1 ?_ | refine post2 ?_ | refine post3 ?_); simp only [GA, Nat.reduceEqDiff, ↓reduceIte]) | (refine postc (by simp only [GA, Nat.reduceEqDiff, ↓reduceIte]; rfl) (by simp (disch := omega) only [hlt', gx, hx, hr, row_m hr, read_row (row_m hr), hu, row_m hu, read_row (row_m hu), csl, hul, usl, nl_len, nl_snoc, h0, c0, c2, lt1, e1, hg', tg, row_m tg, read_row (row_m tg), c1, e2, e3, g, List.set_set, List.length_set, RG52, EVA, plug, ite_same, decide_true, decide_false, eq_self, simprocAttr]; rfl) ?_) | refine post0 ?_
        refine ⟨hlt, ⟨(h.nx + 1 + 4 + 4 + 2 + 3 + 2), ts ++ [(h.nx + 1 + 4 + 4 + 2 + 3 + 4 + 4 + 2 + 6 + 10 + 8)], u, (us.set (od l k) ((lastN ((rowsK l k).getD f []) : Nat) : Int))⟩, ?g1, ?g2, u0, ?g7, ?g3, ?g4, ?g5, ?g6⟩
        case g1 =>
          simp only [Am.keep, List.map_cons, List.map_nil, GA, Nat.reduceEqDiff, ↓reduceIte, hlen1]
          rfl
        case g2 =>
          rw [hat, List.map_append, e0]
          refine N.snoc (n := 1) (cs := nl [od l k]) rfl (by omega) (by omega) (by omega) (fun hm => by have := tlt _ hm; omega) (fun hm => by have := tlt _ hm; omega) (by rw [hcs]; simp (disch := omega) only [set_last csl, RG52, EVA, plug, ite_same, decide_true, decide_false, eq_self, simprocAttr] <;> rfl) (by simp (disch := omega) only [RG52, EVA, plug, ite_same, decide_true, decide_false, eq_self, simprocAttr] <;> rfl) fun s b hs hb => ?_
          have l1 := tlt s hs
          have n1 := (N.nr s hs).2
          have n2 : ¬ s = u := fun e => un (e ▸ hs)
          simp (disch := omega) only [hb, RG52, EVA, plug, ite_same, decide_true, decide_false, eq_self, simprocAttr]
        case g7 => simp only []; omega
        case g3 =>
          intro hm
          rcases List.mem_append.1 hm with q | q
          · exact un q
          · rw [List.mem_singleton] at q; simp only [] at q; omega
        case g4 => simp (disch := omega) only [hu, List.set_set, RG52, EVA, plug, ite_same, decide_true, decide_false, eq_self, simprocAttr] <;> rfl
        case g5 => simp only [List.length_set]; exact hul
        case g6 => exact us_step hul hlt hus (by rw [hund]; try rfl)
  · obtain rfl : k = l.length := by omega
    have hlt' : ¬ (l.length : Int) < l.length := by omega
    repeat' first | (with_reducible first | refine k_seq ?_ | refine k_skip ?_ | refine k_blkS ?_ | refine k_blkR ?_ | refine k_blkC ?_ | refine k_blkH ?_ | refine k_blkB ?_ | refine k_blkK ?_ | refine k_blkE ?_ | refine k_reg ?_) | with_reducible refine k_head (by with_unfolding_all rfl) ?_ | with_reducible refine k_headS ?_ | (with_reducible refine SepK.mk ?_ ?_; (refine sepQ_P ?_; simp [sepQ, sepG, AOp.late, AOp.free, AOp.xs, AOp.isAl, tokNe, AV.tok, stS_get, strip, AX.val, RG52, GA]; try omega)) | with_reducible refine r_done ?_ | with_reducible refine hr_done ?_ | with_reducible refine s_go (by simp (disch := omega) only [hlt', RG52, EVA, plug, ite_same, decide_true, decide_false, eq_self, simprocAttr]; with_reducible rfl) ?_ | with_reducible refine h_go (by with_unfolding_all rfl) (by simp (disch := omega) only [hlt', RG52, EVA, plug, ite_same, decide_true, decide_false, eq_self, simprocAttr]; with_reducible rfl) ?_ | ((with_reducible refine chk_r ?_); refine r_callF (by simp only [CA, Nat.reduceEqDiff, ↓reduceIte]; rfl) (by exact rfl) (by simp only [CA, Nat.reduceEqDiff, ↓reduceIte]; rfl) rfl ?_) | ((with_reducible refine chk_h ?_); refine hr_callF (by simp only [CA, Nat.reduceEqDiff, ↓reduceIte]; rfl) (by exact rfl) (by simp only [CA, Nat.reduceEqDiff, ↓reduceIte]; rfl) rfl ?_) | ((with_reducible refine chk_h ?_); refine hr_app (by simp (disch := omega) only [hlt', RG52, EVA, plug, ite_same, decide_true, decide_false, eq_self, simprocAttr]; with_reducible rfl) rfl ?_) | (with_reducible refine k_condP (by simp only [GA, Nat.reduceEqDiff, ↓reduceIte]; rfl) (by first | (simp only [BO]; rfl) | rfl) (fun ht => ?_) (fun ht => ?_) <;> try (first | exact False.elim ht | exact absurd rfl ht | exact absurd trivial ht | exact Bool.noConfusion ht)) | (with_reducible refine k_ret ?_; repeat with_reducible (first | refine ret_thru ?_ | refine ret_blk ?_ | refine fin ?_)) | (with_reducible refine k_exit ?_; repeat with_reducible (first | refine thru ?_ | refine out_blk ?_ | refine pass (by decide) ?_)) | ((first | refine post1 ?_ | refine post2 ?_ | refine post3 ?_); simp only [GA, Nat.reduceEqDiff, ↓reduceIte]) | (refine postc (by simp only [GA, Nat.reduceEqDiff, ↓reduceIte]; rfl) (by simp (disch := omega) only [hlt', RG52, EVA, plug, ite_same, decide_true, decide_false, eq_self, simprocAttr]; rfl) ?_) | refine post0 ?_
    have eu := undL_eq hul hus
    refine (N.keep (h' := (h.bump 1).bump 4) fun _ _ hb => hb).ends (v2 := .tu [vRows (rowsK l l.length), .sl u 0 l.length 1]) (.tu (.cons ?_ (.cons .same .nil))) fun h2 F => ?_
    · rw [rv_map]
      have := @FrzV.sl r ((rowsK l l.length).map rvN) 0 (rowsK l l.length).length 1 1 (by simp)
      rwa [List.drop_zero, List.take_of_length_le (by simp)] at this
    · have hu2 := F u _ ur un hu
      refine ⟨_, .step hu2 (FrzH.kill _ _ _) (.tu (.cons .same (.cons ?_ .nil))) .done⟩
      rw [eu]
      have := @FrzV.sl u (il (undL l)) 0 l.length 1 1 (by simp [il_len, undL])
      rwa [List.drop_zero, List.take_of_length_le (by simp [il_len, undL])] at this
end Go.Proofs.Ytjncfpfgobojpaa
set_option linter.unusedVariables false
set_option linter.unusedSimpArgs false
namespace Go.Proofs.Ytjncfpfgobojpaa
open Go Go.Am Go.Proofs Go.Sort
open Classical in
noncomputable def rowsR (l : List B) : List (List Nat) := if VL l then rowsL l else []
open Classical in
noncomputable def erR (l : List B) : Int := if VL l then 0 else 60
theorem RG18 : (type_of% @c18r0.eq_1) ∧ (type_of% @c18r1.eq_1) ∧ (type_of% @c18r2.eq_1) ∧ (type_of% @c18r3.eq_1) ∧ (type_of% @c18r4.eq_1) := ⟨@c18r0.eq_1, @c18r1.eq_1, @c18r2.eq_1, @c18r3.eq_1, @c18r4.eq_1⟩
theorem pc18 (l : List B) (hl : l.length ≤ 9223372036854775807) : PC Try.prog 18 [vB l] (.tu [vRows (rowsR l), .i .i64 (erR l)]) := by
  refine pc_fn fn18 (by simp only [AV.plains, AV.plain, il_plain, bl_plain, Bool.and_true, Bool.true_and, Bool.and_self, flB_plain, rows_plain]) (by simp only [AV.plains, AV.plain, il_plain, bl_plain, Bool.and_true, Bool.true_and, Bool.and_self, flB_plain, rows_plain]) (Nat.le_of_ble_eq_true rfl) ?_
  rw [initSt1]
  have q := pc26 l hl
  unfold rowsR erR
  by_cases hv : VL l
  · rw [if_pos hv, if_pos hv]
    rw [vl_t hv] at q
    have q2 := pc52 l hv
    repeat' first | (with_reducible first | refine k_seq ?_ | refine k_skip ?_ | refine k_blkS ?_ | refine k_blkR ?_ | refine k_blkC ?_ | refine k_blkH ?_ | refine k_blkB ?_ | refine k_blkK ?_ | refine k_blkE ?_ | refine k_reg ?_) | with_reducible refine r_done ?_ | with_reducible refine s_go (by simp (disch := omega) only [RG18, EVA, plug, ite_same, decide_true, decide_false, eq_self, simprocAttr]; with_reducible rfl) ?_ | ((with_reducible refine chk_r ?_); refine r_callF (by simp only [CA, Nat.reduceEqDiff, ↓reduceIte]; rfl) (by exact rfl) (by simp only [CA, Nat.reduceEqDiff, ↓reduceIte]; rfl) rfl ?_) | ((with_reducible refine chk_r ?_); refine r_callP (by simp only [CA, Nat.reduceEqDiff, ↓reduceIte]; rfl) (by simp only [CA, Nat.reduceEqDiff, ↓reduceIte]; rfl) (by first | exact q _ | exact q2 _) rfl ?_) | (with_reducible refine k_condP (by simp only [GA, Nat.reduceEqDiff, ↓reduceIte]; rfl) (by first | (simp only [BO]; rfl) | rfl) (fun ht => ?_) (fun ht => ?_) <;> try (first | exact False.elim ht | exact absurd rfl ht | exact absurd trivial ht | exact Bool.noConfusion ht)) | (with_reducible refine k_ret ?_; repeat with_reducible (first | refine ret_thru ?_ | refine ret_blk ?_ | refine fin ?_)) | (with_reducible refine k_exit ?_; repeat with_reducible (first | refine thru ?_ | refine out_blk ?_ | refine pass (by decide) ?_)) | ((first | refine post1 ?_ | refine post2 ?_ | refine post3 ?_); simp only [GA, Nat.reduceEqDiff, ↓reduceIte]) | (refine postc (by simp only [GA, Nat.reduceEqDiff, ↓reduceIte]; rfl) (by simp (disch := omega) only [RG18, EVA, plug, ite_same, decide_true, decide_false, eq_self, simprocAttr]; rfl) ?_) | refine post0 ?_
    all_goals first | exact ends_of | exact ends_eq rfl
  · rw [if_neg hv, if_neg hv]
    rw [vl_f hv] at q
    repeat' first | (with_reducible first | refine k_seq ?_ | refine k_skip ?_ | refine k_blkS ?_ | refine k_blkR ?_ | refine k_blkC ?_ | refine k_blkH ?_ | refine k_blkB ?_ | refine k_blkK ?_ | refine k_blkE ?_ | refine k_reg ?_) | with_reducible refine r_done ?_ | with_reducible refine s_go (by simp (disch := omega) only [RG18, EVA, plug, ite_same, decide_true, decide_false, eq_self, simprocAttr]; with_reducible rfl) ?_ | ((with_reducible refine chk_r ?_); refine r_callF (by simp only [CA, Nat.reduceEqDiff, ↓reduceIte]; rfl) (by exact rfl) (by simp only [CA, Nat.reduceEqDiff, ↓reduceIte]; rfl) rfl ?_) | ((with_reducible refine chk_r ?_); refine r_callP (by simp only [CA, Nat.reduceEqDiff, ↓reduceIte]; rfl) (by simp only [CA, Nat.reduceEqDiff, ↓reduceIte]; rfl) (by first | exact q _) rfl ?_) | (with_reducible refine k_condP (by simp only [GA, Nat.reduceEqDiff, ↓reduceIte]; rfl) (by first | (simp only [BO]; rfl) | rfl) (fun ht => ?_) (fun ht => ?_) <;> try (first | exact False.elim ht | exact absurd rfl ht | exact absurd trivial ht | exact Bool.noConfusion ht)) | (with_reducible refine k_ret ?_; repeat with_reducible (first | refine ret_thru ?_ | refine ret_blk ?_ | refine fin ?_)) | (with_reducible refine k_exit ?_; repeat with_reducible (first | refine thru ?_ | refine out_blk ?_ | refine pass (by decide) ?_)) | ((first | refine post1 ?_ | refine post2 ?_ | refine post3 ?_); simp only [GA, Nat.reduceEqDiff, ↓reduceIte]) | (refine postc (by simp only [GA, Nat.reduceEqDiff, ↓reduceIte]; rfl) (by simp (disch := omega) only [RG18, EVA, plug, ite_same, decide_true, decide_false, eq_self, simprocAttr]; rfl) ?_) | refine post0 ?_
    exact ends_nil2
theorem rowsR_len (l : List B) : (rowsR l).length ≤ l.length := by
  unfold rowsR
  split
  · exact rowsK_len l (Nat.le_refl _)
  · simp
theorem pc20 (l : List B) (hl : l.length ≤ 9223372036854775807) : PC Try.prog 20 [vB l] (.tu [.i .i64 ((rowsR l).length : Int), .i .i64 (erR l)]) := by
  refine pc_fn fn20 (by simp only [AV.plains, AV.plain, il_plain, bl_plain, Bool.and_true, Bool.true_and, Bool.and_self, flB_plain]) (by simp only [AV.plains, AV.plain, il_plain, bl_plain, Bool.and_true, Bool.true_and, Bool.and_self, flB_plain]) (Nat.le_of_ble_eq_true rfl) ?_
  rw [initSt1]
  have q := pc18 l hl
  generalize rowsR l = M at q ⊢
  generalize erR l = A at q ⊢
  repeat' first | (with_reducible first | refine k_seq ?_ | refine k_skip ?_ | refine k_blkS ?_ | refine k_blkR ?_ | refine k_blkC ?_ | refine k_blkH ?_ | refine k_blkB ?_ | refine k_blkK ?_ | refine k_blkE ?_ | refine k_reg ?_) | with_reducible refine r_done ?_ | with_reducible refine s_go (by simp (disch := omega) only [c20r0, c20r1, c20r2, EVA, plug, ite_same, decide_true, decide_false, eq_self, simprocAttr]; with_reducible rfl) ?_ | ((with_reducible refine chk_r ?_); refine r_callF (by simp only [CA, Nat.reduceEqDiff, ↓reduceIte]; rfl) (by exact rfl) (by simp only [CA, Nat.reduceEqDiff, ↓reduceIte]; rfl) rfl ?_) | ((with_reducible refine chk_r ?_); refine r_callP (by simp only [CA, Nat.reduceEqDiff, ↓reduceIte]; rfl) (by simp only [CA, Nat.reduceEqDiff, ↓reduceIte]; rfl) (by first | exact q _) rfl ?_) | (with_reducible refine k_condP (by simp only [GA, Nat.reduceEqDiff, ↓reduceIte]; rfl) (by first | (simp only [BO]; rfl) | rfl) (fun ht => ?_) (fun ht => ?_) <;> try (first | exact False.elim ht | exact absurd rfl ht | exact absurd trivial ht | exact Bool.noConfusion ht)) | (with_reducible refine k_ret ?_; repeat with_reducible (first | refine ret_thru ?_ | refine ret_blk ?_ | refine fin ?_)) | (with_reducible refine k_exit ?_; repeat with_reducible (first | refine thru ?_ | refine out_blk ?_ | refine pass (by decide) ?_)) | ((first | refine post1 ?_ | refine post2 ?_ | refine post3 ?_); simp only [GA, Nat.reduceEqDiff, ↓reduceIte]) | (refine postc (by simp only [GA, Nat.reduceEqDiff, ↓reduceIte]; rfl) (by simp (disch := omega) only [c20r0, c20r1, c20r2, EVA, plug, ite_same, decide_true, decide_false, eq_self, simprocAttr]; rfl) ?_) | refine post0 ?_
  all_goals first | exact ends_of | exact ends_eq rfl
section
variable {P : Program} {N : Nat} {Q : Exit → St → AH → Prop} {st : St} {h : AH}
theorem w_frz1 {c : AC} (d : Nat) {t n a : Nat} (k : Nat) {cs : List AV} (hm : h.m t = some (.cells true cs)) (hd : st.get d = .sl t 0 n a) (hl : n * k = cs.length) (w : W P N c Q [(d, .vs n cs)] (h.kill t)) : W P N c Q st h :=
  w_frz hm (fun x => by
    simp only [St.get]
    by_cases e : x = d
    · subst e
      rw [hd, if_pos rfl]
      have := @FrzV.sl t cs 0 n k a (by omega)
      rwa [List.drop_zero, hl, List.take_length] at this
    · rw [if_neg e]; exact .un) w
theorem w_frzP {c : AC} (d : Nat) {t : Nat} {cs : List AV} (hm : h.m t = some (.cells true cs)) (hd : st.get d = .p t 0) (w : W P N c Q ((d, .pv cs 0) :: st) (h.kill t)) : W P N c Q st h :=
  w_frz hm (fun x => by
    simp only [St.get]
    by_cases e : x = d
    · subst e; rw [if_pos rfl, hd]; exact .p
    · rw [if_neg e]; exact .same) w
end
def Lx : List B := [⟨1, 1, 5, 0, 0, 0, 0⟩, ⟨2, 2, 3, 0, 0, 0, 0⟩]
theorem Lx_VL : VL Lx := ⟨by decide, by
  show vk Lx 2
  refine vk_succ.2 ⟨vk_succ.2 ⟨⟨fun i h => by omega, fun i j h1 h2 => by omega⟩, by decide, fun i h => by omega⟩, by decide, fun i h => ?_⟩
  obtain rfl : i = 0 := by omega
  decide⟩
theorem Lx_order : orderL Lx = [0, 1] := by
  unfold orderL
  have : List.range Lx.length = [0, 1] := rfl
  rw [this]
  exact List.mergeSort_of_pairwise (by simp; decide)
theorem Lx_rows : rowsL Lx = [[0], [1]] := by
  unfold rowsL rowsK
  rw [Lx_order]
  decide
theorem RG17 : (type_of% @c17r0.eq_1) ∧ (type_of% @c17r1.eq_1) ∧ (type_of% @c17r2.eq_1) ∧ (type_of% @c17r3.eq_1) ∧ (type_of% @c17r4.eq_1) := ⟨@c17r0.eq_1, @c17r1.eq_1, @c17r2.eq_1, @c17r3.eq_1, @c17r4.eq_1⟩
theorem pc17 : PC Try.prog 17 [] (.b true) := by
  refine pc_fn fn17 (by simp only [AV.plains, AV.plain, il_plain, bl_plain, Bool.and_true, Bool.true_and, Bool.and_self]) (by simp only [AV.plains, AV.plain, il_plain, bl_plain, Bool.and_true, Bool.true_and, Bool.and_self]) (Nat.le_of_ble_eq_true rfl) ?_
  rw [initSt0]
  have v := Lx_VL
  have q1 := pc20 Lx (by decide)
  have q2 := pc18 Lx (by decide)
  have e : erR Lx = 0 := by unfold erR; rw [if_pos v]
  have r : rowsR Lx = [[0], [1]] := by unfold rowsR; rw [if_pos v]; exact Lx_rows
  rw [e, r] at q1 q2
  refine k_seq (k_reg ?_)
  refine s_go (by simp (disch := omega) only [RG17, EVA, plug, ite_same, decide_true, decide_false, eq_self, simprocAttr]; with_reducible rfl) ?_
  refine r_done ?_
  refine k_seq (k_reg ?_)
  refine s_go (by simp (disch := omega) only [RG17, EVA, plug, ite_same, decide_true, decide_false, eq_self, simprocAttr]; with_reducible rfl) ?_
  refine r_done ?_
  refine w_frz1 (t := 4) (n := 2) (a := 7) 1 7 (by simp (disch := omega) only [RG17, EVA, plug, ite_same, decide_true, decide_false, eq_self, simprocAttr] <;> rfl) rfl rfl ?_
  simp only [Lx, eB, vB, vRows, rvN, nl, fl, List.map_cons, List.map_nil, List.flatten_cons, List.flatten_nil, List.cons_append, List.nil_append, List.append_nil, List.length_cons, List.length_nil] at q1 q2 ⊢
  repeat' first | (with_reducible first | refine k_seq ?_ | refine k_skip ?_ | refine k_blkS ?_ | refine k_blkR ?_ | refine k_blkC ?_ | refine k_blkH ?_ | refine k_blkB ?_ | refine k_blkK ?_ | refine k_blkE ?_ | refine k_reg ?_) | with_reducible refine r_done ?_ | with_reducible refine s_go (by simp (disch := omega) only [RG17, EVA, plug, ite_same, decide_true, decide_false, eq_self, simprocAttr]; with_reducible rfl) ?_ | ((with_reducible refine chk_r ?_); refine r_callF (by simp only [CA, Nat.reduceEqDiff, ↓reduceIte]; rfl) (by exact rfl) (by simp only [CA, Nat.reduceEqDiff, ↓reduceIte]; rfl) rfl ?_) | ((with_reducible refine chk_r ?_); refine r_callP (by simp only [CA, Nat.reduceEqDiff, ↓reduceIte]; rfl) (by simp only [CA, Nat.reduceEqDiff, ↓reduceIte]; rfl) (by first | exact q1 _ | exact q2 _) rfl ?_) | (with_reducible refine k_condP (by simp only [GA, Nat.reduceEqDiff, ↓reduceIte]; rfl) (by first | (simp only [BO]; rfl) | rfl) (fun ht => ?_) (fun ht => ?_) <;> try (first | exact False.elim ht | exact absurd rfl ht | exact absurd trivial ht | exact Bool.noConfusion ht)) | (with_reducible refine k_ret ?_; repeat with_reducible (first | refine ret_thru ?_ | refine ret_blk ?_ | refine fin ?_)) | (with_reducible refine k_exit ?_; repeat with_reducible (first | refine thru ?_ | refine out_blk ?_ | refine pass (by decide) ?_)) | ((first | refine post1 ?_ | refine post2 ?_ | refine post3 ?_); simp only [GA, Nat.reduceEqDiff, ↓reduceIte]) | (refine postc (by simp only [GA, Nat.reduceEqDiff, ↓reduceIte]; rfl) (by simp (disch := omega) only [RG17, EVA, plug, ite_same, decide_true, decide_false, eq_self, simprocAttr]; rfl) ?_) | refine post0 ?_
  exact ends_eq (b_eq (by decide))
theorem decB (r : List AV) (h : Shps [.i .i64, .i .i64, .i .i64, .i .i64, .i .i64, .i .i64, .i .i64] r) : ∃ x : B, r = eB x ∧ True := by
  obtain ⟨_, _, rfl, t0, h⟩ := shps_cons h
  obtain ⟨_, _, rfl, t1, h⟩ := shps_cons h
  obtain ⟨_, _, rfl, t2, h⟩ := shps_cons h
  obtain ⟨_, _, rfl, t3, h⟩ := shps_cons h
  obtain ⟨_, _, rfl, t4, h⟩ := shps_cons h
  obtain ⟨_, _, rfl, t5, h⟩ := shps_cons h
  obtain ⟨_, _, rfl, t6, h⟩ := shps_cons h
  obtain rfl := shps_nil h
  obtain ⟨a, rfl, _⟩ := shp_i64 t0
  obtain ⟨b, rfl, _⟩ := shp_i64 t1
  obtain ⟨c, rfl, _⟩ := shp_i64 t2
  obtain ⟨d, rfl, _⟩ := shp_i64 t3
  obtain ⟨e, rfl, _⟩ := shp_i64 t4
  obtain ⟨f, rfl, _⟩ := shp_i64 t5
  obtain ⟨g, rfl, _⟩ := shp_i64 t6
  exact ⟨⟨a, b, c, d, e, f, g⟩, rfl, trivial⟩
end Go.Proofs.Ytjncfpfgobojpaa
set_option linter.unusedVariables false
set_option linter.unusedSimpArgs false
namespace Go.Proofs.Ytjncfpfgobojpaa
open Go Go.Am Go.Proofs Go.Sort
structure Rn where
  batch : Int
  fro : Int
  til : Int
  clean : Bool
def eR (r : Rn) : List AV := [.i .i64 r.batch, .i .i64 r.fro, .i .i64 r.til, .b r.clean]
theorem eR_plain (r : Rn) : AV.plains (eR r) = true := rfl
def sumH (b : B) : Nat → Int
  | 0 => 0
  | k + 1 => sumH b k + hB b k
def hrs (b : B) : Int := sumH b 4
theorem hB_rng {b : B} (h : vb b = true) (k : Nat) : 0 ≤ hB b k ∧ hB b k ≤ 100 := by
  have := vb_len h
  match k with
  | 0 => exact this.1
  | 1 => exact this.2.1
  | 2 => exact this.2.2.1
  | k + 3 => exact this.2.2.2.1
theorem sumH_rng {b : B} (h : vb b = true) : ∀ k : Nat, 0 ≤ sumH b k ∧ sumH b k ≤ 100 * k
  | 0 => by simp [sumH]
  | k + 1 => by
    have := sumH_rng h k
    have := hB_rng h k
    simp only [sumH]
    omega
theorem RG60 : (type_of% @c60r0.eq_1) ∧ (type_of% @c60r1.eq_1) ∧ (type_of% @c60r2.eq_1) ∧ (type_of% @c60r3.eq_1) ∧ (type_of% @c60r4.eq_1) ∧ (type_of% @c60r5.eq_1) ∧ (type_of% @c60r6.eq_1) ∧ (type_of% @c60r8.eq_1) := ⟨@c60r0.eq_1, @c60r1.eq_1, @c60r2.eq_1, @c60r3.eq_1, @c60r4.eq_1, @c60r5.eq_1, @c60r6.eq_1, @c60r8.eq_1⟩
theorem pc60 (b : B) (hb : vb b = true) : PC Try.prog 60 [.ag (eB b)] (.i .i64 (hrs b)) := by
  simp only [eB]
  refine pc_fn fn60 (by simp only [AV.plains, AV.plain, il_plain, bl_plain, Bool.and_true, Bool.true_and, Bool.and_self]) (by simp only [AV.plains, AV.plain, il_plain, bl_plain, Bool.and_true, Bool.true_and, Bool.and_self]) (Nat.le_of_ble_eq_true rfl) ?_
  rw [initSt1]
  repeat' first | (with_reducible first | refine k_seq ?_ | refine k_skip ?_ | refine k_blkS ?_ | refine k_blkR ?_ | refine k_blkC ?_ | refine k_blkH ?_ | refine k_blkB ?_ | refine k_blkK ?_ | refine k_blkE ?_ | refine k_reg ?_) | with_reducible refine r_done ?_ | with_reducible refine s_go (by simp (disch := omega) only [RG60, EVA, plug, ite_same, decide_true, decide_false, eq_self, simprocAttr]; with_reducible rfl) ?_ | ((with_reducible refine chk_r ?_); refine r_callF (by simp only [CA, Nat.reduceEqDiff, ↓reduceIte]; rfl) (by exact rfl) (by simp only [CA, Nat.reduceEqDiff, ↓reduceIte]; rfl) rfl ?_) | (with_reducible refine k_condP (by simp only [GA, Nat.reduceEqDiff, ↓reduceIte]; rfl) (by first | (simp only [BO]; rfl) | rfl) (fun ht => ?_) (fun ht => ?_) <;> try (first | exact False.elim ht | exact absurd rfl ht | exact absurd trivial ht | exact Bool.noConfusion ht)) | (with_reducible refine k_ret ?_; repeat with_reducible (first | refine ret_thru ?_ | refine ret_blk ?_ | refine fin ?_)) | (with_reducible refine k_exit ?_; repeat with_reducible (first | refine thru ?_ | refine out_blk ?_ | refine pass (by decide) ?_)) | ((first | refine post1 ?_ | refine post2 ?_ | refine post3 ?_); simp only [GA, Nat.reduceEqDiff, ↓reduceIte]) | (refine postc (by simp only [GA, Nat.reduceEqDiff, ↓reduceIte]; rfl) (by simp (disch := omega) only [RG60, EVA, plug, ite_same, decide_true, decide_false, eq_self, simprocAttr]; rfl) ?_) | refine post0 ?_
  refine k_blk (k_loopS (X := Unit) [3, 7, 8] 4 (fun k _ => [(3, .i .i64 (sumH b k)), (7, .ag (hsB b)), (8, .i .i64 (k : Int))]) (fun k _ h => True) () (by simp only [Am.keep, List.map_cons, List.map_nil, GA, Nat.reduceEqDiff, ↓reduceIte]; try rfl) trivial ?_)
  rintro k _ h hk - ok pos
  have s1 := sumH_rng hb k
  have s2 := hB_rng hb k
  by_cases hlt : k < 4
  · have hlt' : (k : Int) < 4 := by omega
    have g := hB_get b hlt
    have e : sumH b k + hB b k = sumH b (k + 1) := rfl
    have s3 := sumH_rng hb (k + 1)
    generalize hcs : hsB b = cs at g ⊢
    have cl : cs.length = 4 := by rw [← hcs]; rfl
    repeat' first | (with_reducible first | refine k_seq ?_ | refine k_skip ?_ | refine k_blkS ?_ | refine k_blkR ?_ | refine k_blkC ?_ | refine k_blkH ?_ | refine k_blkB ?_ | refine k_blkK ?_ | refine k_blkE ?_ | refine k_reg ?_) | with_reducible refine r_done ?_ | with_reducible refine s_go (by simp (disch := omega) only [hlt', g, cl, e, RG60, EVA, plug, ite_same, decide_true, decide_false, eq_self, simprocAttr]; with_reducible rfl) ?_ | ((with_reducible refine chk_r ?_); refine r_callF (by simp only [CA, Nat.reduceEqDiff, ↓reduceIte]; rfl) (by exact rfl) (by simp only [CA, Nat.reduceEqDiff, ↓reduceIte]; rfl) rfl ?_) | (with_reducible refine k_condP (by simp only [GA, Nat.reduceEqDiff, ↓reduceIte]; rfl) (by first | (simp only [BO]; rfl) | rfl) (fun ht => ?_) (fun ht => ?_) <;> try (first | exact False.elim ht | exact absurd rfl ht | exact absurd trivial ht | exact Bool.noConfusion ht)) | (with_reducible refine k_ret ?_; repeat with_reducible (first | refine ret_thru ?_ | refine ret_blk ?_ | refine fin ?_)) | (with_reducible refine k_exit ?_; repeat with_reducible (first | refine thru ?_ | refine out_blk ?_ | refine pass (by decide) ?_)) | ((first | refine post1 ?_ | refine post2 ?_ | refine post3 ?_); simp only [GA, Nat.reduceEqDiff, ↓reduceIte]) | (refine postc (by simp only [GA, Nat.reduceEqDiff, ↓reduceIte]; rfl) (by simp (disch := omega) only [hlt', g, cl, e, RG60, EVA, plug, ite_same, decide_true, decide_false, eq_self, simprocAttr]; rfl) ?_) | refine post0 ?_
    exact ⟨hlt, (), (by simp only [Am.keep, List.map_cons, List.map_nil, GA, Nat.reduceEqDiff, ↓reduceIte]; try rfl), trivial⟩
  · obtain rfl : k = 4 := by omega
    have hlt' : ¬ ((4 : Nat) : Int) < 4 := by omega
    repeat' first | (with_reducible first | refine k_seq ?_ | refine k_skip ?_ | refine k_blkS ?_ | refine k_blkR ?_ | refine k_blkC ?_ | refine k_blkH ?_ | refine k_blkB ?_ | refine k_blkK ?_ | refine k_blkE ?_ | refine k_reg ?_) | with_reducible refine r_done ?_ | with_reducible refine s_go (by simp (disch := omega) only [hlt', RG60, EVA, plug, ite_same, decide_true, decide_false, eq_self, simprocAttr]; with_reducible rfl) ?_ | ((with_reducible refine chk_r ?_); refine r_callF (by simp only [CA, Nat.reduceEqDiff, ↓reduceIte]; rfl) (by exact rfl) (by simp only [CA, Nat.reduceEqDiff, ↓reduceIte]; rfl) rfl ?_) | (with_reducible refine k_condP (by simp only [GA, Nat.reduceEqDiff, ↓reduceIte]; rfl) (by first | (simp only [BO]; rfl) | rfl) (fun ht => ?_) (fun ht => ?_) <;> try (first | exact False.elim ht | exact absurd rfl ht | exact absurd trivial ht | exact Bool.noConfusion ht)) | (with_reducible refine k_ret ?_; repeat with_reducible (first | refine ret_thru ?_ | refine ret_blk ?_ | refine fin ?_)) | (with_reducible refine k_exit ?_; repeat with_reducible (first | refine thru ?_ | refine out_blk ?_ | refine pass (by decide) ?_)) | ((first | refine post1 ?_ | refine post2 ?_ | refine post3 ?_); simp only [GA, Nat.reduceEqDiff, ↓reduceIte]) | (refine postc (by simp only [GA, Nat.reduceEqDiff, ↓reduceIte]; rfl) (by simp (disch := omega) only [hlt', RG60, EVA, plug, ite_same, decide_true, decide_false, eq_self, simprocAttr]; rfl) ?_) | refine post0 ?_
    all_goals first | exact ends_of | exact ends_eq rfl
def cl (r : Rn) (c : Int) : Int := if r.clean = true then c else 0
theorem RG66 : (type_of% @c66r0.eq_1) ∧ (type_of% @c66r1.eq_1) ∧ (type_of% @c66r2.eq_1) ∧ (type_of% @c66r3.eq_1) ∧ (type_of% @c66r4.eq_1) := ⟨@c66r0.eq_1, @c66r1.eq_1, @c66r2.eq_1, @c66r3.eq_1, @c66r4.eq_1⟩
theorem pc66 (b : B) (hb : vb b = true) (r : Rn) (c : Int) (hc : 0 ≤ c ∧ c ≤ 100) : PC Try.prog 66 [.ag (eB b), .ag (eR r), .i .i64 c] (.i .i64 (hrs b + cl r c)) := by
  have q := pc60 b hb
  have s : 0 ≤ hrs b ∧ hrs b ≤ 400 := sumH_rng hb 4
  unfold cl
  simp only [eB, eR] at q ⊢
  refine pc_fn fn66 (by simp only [AV.plains, AV.plain, il_plain, bl_plain, Bool.and_true, Bool.true_and, Bool.and_self]) (by simp only [AV.plains, AV.plain, il_plain, bl_plain, Bool.and_true, Bool.true_and, Bool.and_self]) (Nat.le_of_ble_eq_true rfl) ?_
  rw [initSt3]
  generalize hrs b = H at q s ⊢
  cases hcl : r.clean with
  | true =>
    repeat' first | (with_reducible first | refine k_seq ?_ | refine k_skip ?_ | refine k_blkS ?_ | refine k_blkR ?_ | refine k_blkC ?_ | refine k_blkH ?_ | refine k_blkB ?_ | refine k_blkK ?_ | refine k_blkE ?_ | refine k_reg ?_) | with_reducible refine r_done ?_ | with_reducible refine s_go (by simp (disch := omega) only [RG66, EVA, plug, ite_same, decide_true, decide_false, eq_self, simprocAttr]; with_reducible rfl) ?_ | ((with_reducible refine chk_r ?_); refine r_callF (by simp only [CA, Nat.reduceEqDiff, ↓reduceIte]; rfl) (by exact rfl) (by simp only [CA, Nat.reduceEqDiff, ↓reduceIte]; rfl) rfl ?_) | ((with_reducible refine chk_r ?_); refine r_callP (by simp only [CA, Nat.reduceEqDiff, ↓reduceIte]; rfl) (by simp only [CA, Nat.reduceEqDiff, ↓reduceIte]; rfl) (by first | exact q _) rfl ?_) | (with_reducible refine k_condP (by simp only [GA, Nat.reduceEqDiff, ↓reduceIte]; rfl) (by first | (simp only [BO]; rfl) | rfl) (fun ht => ?_) (fun ht => ?_) <;> try (first | exact False.elim ht | exact absurd rfl ht | exact absurd trivial ht | exact Bool.noConfusion ht)) | (with_reducible refine k_ret ?_; repeat with_reducible (first | refine ret_thru ?_ | refine ret_blk ?_ | refine fin ?_)) | (with_reducible refine k_exit ?_; repeat with_reducible (first | refine thru ?_ | refine out_blk ?_ | refine pass (by decide) ?_)) | ((first | refine post1 ?_ | refine post2 ?_ | refine post3 ?_); simp only [GA, Nat.reduceEqDiff, ↓reduceIte]) | (refine postc (by simp only [GA, Nat.reduceEqDiff, ↓reduceIte]; rfl) (by simp (disch := omega) only [RG66, EVA, plug, ite_same, decide_true, decide_false, eq_self, simprocAttr]; rfl) ?_) | refine post0 ?_
    all_goals first | exact ends_of | exact ends_eq rfl
  | false =>
    repeat' first | (with_reducible first | refine k_seq ?_ | refine k_skip ?_ | refine k_blkS ?_ | refine k_blkR ?_ | refine k_blkC ?_ | refine k_blkH ?_ | refine k_blkB ?_ | refine k_blkK ?_ | refine k_blkE ?_ | refine k_reg ?_) | with_reducible refine r_done ?_ | with_reducible refine s_go (by simp (disch := omega) only [RG66, EVA, plug, ite_same, decide_true, decide_false, eq_self, simprocAttr]; with_reducible rfl) ?_ | ((with_reducible refine chk_r ?_); refine r_callF (by simp only [CA, Nat.reduceEqDiff, ↓reduceIte]; rfl) (by exact rfl) (by simp only [CA, Nat.reduceEqDiff, ↓reduceIte]; rfl) rfl ?_) | ((with_reducible refine chk_r ?_); refine r_callP (by simp only [CA, Nat.reduceEqDiff, ↓reduceIte]; rfl) (by simp only [CA, Nat.reduceEqDiff, ↓reduceIte]; rfl) (by first | exact q _) rfl ?_) | (with_reducible refine k_condP (by simp only [GA, Nat.reduceEqDiff, ↓reduceIte]; rfl) (by first | (simp only [BO]; rfl) | rfl) (fun ht => ?_) (fun ht => ?_) <;> try (first | exact False.elim ht | exact absurd rfl ht | exact absurd trivial ht | exact Bool.noConfusion ht)) | (with_reducible refine k_ret ?_; repeat with_reducible (first | refine ret_thru ?_ | refine ret_blk ?_ | refine fin ?_)) | (with_reducible refine k_exit ?_; repeat with_reducible (first | refine thru ?_ | refine out_blk ?_ | refine pass (by decide) ?_)) | ((first | refine post1 ?_ | refine post2 ?_ | refine post3 ?_); simp only [GA, Nat.reduceEqDiff, ↓reduceIte]) | (refine postc (by simp only [GA, Nat.reduceEqDiff, ↓reduceIte]; rfl) (by simp (disch := omega) only [RG66, EVA, plug, ite_same, decide_true, decide_false, eq_self, simprocAttr]; rfl) ?_) | refine post0 ?_
    all_goals exact ends_eq (i_eq (by simp))
def tm (r : Rn) (n : Int) : Bool := decide (r.fro ≤ r.til ∧ r.til - r.fro = n)
theorem uwrap (n : Int) : IntKind.u64.wrap n = n % 18446744073709551616 := rfl
theorem pc65 (r : Rn) (h1 : i64 r.fro) (h2 : i64 r.til) (n : Int) (hn : 0 ≤ n ∧ n ≤ 1000) : PC Try.prog 65 [.ag (eR r), .i .i64 n] (.b (tm r n)) := by
  simp only [eR]
  refine pc_fn fn65 (by simp only [AV.plains, AV.plain, il_plain, bl_plain, Bool.and_true, Bool.true_and, Bool.and_self]) (by simp only [AV.plains, AV.plain, il_plain, bl_plain, Bool.and_true, Bool.true_and, Bool.and_self]) (Nat.le_of_ble_eq_true rfl) ?_
  rw [initSt2]
  unfold i64 at h1 h2
  by_cases h : r.fro ≤ r.til
  · have w : IntKind.u64.wrap (IntKind.u64.wrap r.til - IntKind.u64.wrap r.fro) = r.til - r.fro := by
      simp only [uwrap]; omega
    have w2 : IntKind.u64.wrap n = n := by simp only [uwrap]; omega
    repeat' first | (with_reducible first | refine k_seq ?_ | refine k_skip ?_ | refine k_blkS ?_ | refine k_blkR ?_ | refine k_blkC ?_ | refine k_blkH ?_ | refine k_blkB ?_ | refine k_blkK ?_ | refine k_blkE ?_ | refine k_reg ?_) | with_reducible refine r_done ?_ | with_reducible refine s_go (by simp (disch := omega) only [h, w, w2, c65r0, c65r1, EVA, plug, ite_same, decide_true, decide_false, eq_self, simprocAttr]; with_reducible rfl) ?_ | ((with_reducible refine chk_r ?_); refine r_callF (by simp only [CA, Nat.reduceEqDiff, ↓reduceIte]; rfl) (by exact rfl) (by simp only [CA, Nat.reduceEqDiff, ↓reduceIte]; rfl) rfl ?_) | (with_reducible refine k_condP (by simp only [GA, Nat.reduceEqDiff, ↓reduceIte]; rfl) (by first | (simp only [BO]; rfl) | rfl) (fun ht => ?_) (fun ht => ?_) <;> try (first | exact False.elim ht | exact absurd rfl ht | exact absurd trivial ht | exact Bool.noConfusion ht)) | (with_reducible refine k_ret ?_; repeat with_reducible (first | refine ret_thru ?_ | refine ret_blk ?_ | refine fin ?_)) | (with_reducible refine k_exit ?_; repeat with_reducible (first | refine thru ?_ | refine out_blk ?_ | refine pass (by decide) ?_)) | ((first | refine post1 ?_ | refine post2 ?_ | refine post3 ?_); simp only [GA, Nat.reduceEqDiff, ↓reduceIte]) | (refine postc (by simp only [GA, Nat.reduceEqDiff, ↓reduceIte]; rfl) (by simp (disch := omega) only [h, w, w2, c65r0, c65r1, EVA, plug, ite_same, decide_true, decide_false, eq_self, simprocAttr]; rfl) ?_) | refine post0 ?_
    refine ends_eq (b_eq ?_); rw [Bool.eq_iff_iff]
    simp [tm, h]
  · repeat' first
      | with_reducible refine k_seq ?_
      | with_reducible refine k_skip ?_
      | with_reducible refine k_blkS ?_
      | with_reducible refine k_blkR ?_
      | with_reducible refine k_blkC ?_
      | with_reducible refine k_blkH ?_
      | with_reducible refine k_blkB ?_
      | with_reducible refine k_blkK ?_
      | with_reducible refine k_blkE ?_
      | with_reducible refine k_reg ?_
      | with_reducible refine r_done ?_
      | with_reducible refine s_go (by simp (disch := omega) only [h, c65r0, c65r1, EVA, plug, ite_same, decide_true, decide_false, eq_self, simprocAttr]; with_reducible rfl) ?_
      | ((with_reducible refine chk_r ?_); refine r_callF (by simp only [CA, Nat.reduceEqDiff, ↓reduceIte]; rfl) (by exact rfl) (by simp only [CA, Nat.reduceEqDiff, ↓reduceIte]; rfl) rfl ?_)
      | (with_reducible refine k_condP (by simp only [GA, Nat.reduceEqDiff, ↓reduceIte]; rfl) (by first | (simp only [BO]; rfl) | rfl) (fun ht => ?_) (fun ht => ?_) <;> try (first | exact False.elim ht | exact absurd rfl ht | exact absurd trivial ht | exact Bool.noConfusion ht))
      | (with_reducible refine k_ret ?_; repeat with_reducible (first | refine ret_thru ?_ | refine ret_blk ?_ | refine fin ?_))
      | (with_reducible refine k_exit ?_; repeat with_reducible (first | refine thru ?_ | refine out_blk ?_ | refine pass (by decide) ?_))
      | (refine post1 ?_; simp only [GA, Nat.reduceEqDiff, ↓reduceIte])
      | (refine post2 ?_; simp only [GA, Nat.reduceEqDiff, ↓reduceIte])
      | (refine post3 ?_; simp only [GA, Nat.reduceEqDiff, ↓reduceIte])
      | (refine postc (by simp only [GA, Nat.reduceEqDiff, ↓reduceIte]; rfl) (by simp (disch := omega) only [h, c65r0, c65r1, EVA, plug, ite_same, decide_true, decide_false, eq_self, simprocAttr]; rfl) ?_)
      | refine post0 ?_
    refine ends_eq (b_eq ?_); rw [Bool.eq_iff_iff]
    simp [tm, h]
end Go.Proofs.Ytjncfpfgobojpaa
set_option linter.unusedVariables false
set_option linter.unusedSimpArgs false
namespace Go.Proofs.Ytjncfpfgobojpaa
open Go Go.Am Go.Proofs Go.Sort
abbrev rB (l : List B) (r : Rn) : B := bD l r.batch.toNat
end Go.Proofs.Ytjncfpfgobojpaa
set_option linter.unusedVariables false
set_option linter.unusedSimpArgs false
namespace Go.Proofs.Ytjncfpfgobojpaa
open Go Go.Am Go.Proofs Go.Sort
def sm (l : List B) : Nat → Int
  | 0 => 0
  | k + 1 => sm l k + hrs (bD l k)
def lg (l : List B) : Nat → Int
  | 0 => 0
  | k + 1 => max (lg l k) (hrs (bD l k))
def lc (l : List B) (c : Int) : Nat → Int
  | 0 => 0
  | k + 1 => max (lc l c k) (hrs (bD l k) + c)
def dv (s c : Int) (b : Nat) : Int := (s + b * c + b - 1).tdiv b
def bm (s c : Int) : Nat → Int
  | 0 => s + c
  | k + 1 => min (bm s c k) (dv s c (k + 1))
theorem hrs_rng {b : B} (h : vb b = true) : 0 ≤ hrs b ∧ hrs b ≤ 400 := sumH_rng h 4
theorem sm_rng {l : List B} (hv : VL l) : ∀ k : Nat, k ≤ l.length → 0 ≤ sm l k ∧ sm l k ≤ 400 * k
  | 0, _ => by simp [sm]
  | k + 1, h => by
    have := sm_rng hv k (by omega)
    have := hrs_rng (hv.b (i := k) (by omega))
    simp only [sm]; omega
theorem lg_rng {l : List B} (hv : VL l) : ∀ k : Nat, k ≤ l.length → 0 ≤ lg l k ∧ lg l k ≤ 400
  | 0, _ => by simp [lg]
  | k + 1, h => by
    have := lg_rng hv k (by omega)
    have := hrs_rng (hv.b (i := k) (by omega))
    simp only [lg]; omega
theorem bc_rng {c : Int} (hc : 0 ≤ c ∧ c ≤ 100) {b : Nat} (hb : b ≤ 9) : 0 ≤ (b : Int) * c ∧ (b : Int) * c ≤ 900 := by
  refine ⟨Int.mul_nonneg (by omega) hc.1, ?_⟩
  have := Int.mul_le_mul (show (b : Int) ≤ 9 by omega) hc.2 hc.1 (by omega)
  omega
theorem dv_rng {s c : Int} (hs : 0 ≤ s ∧ s ≤ 16000) (hc : 0 ≤ c ∧ c ≤ 100) {b : Nat} (hb : b ≤ 9) (h1 : 1 ≤ b) : 0 ≤ dv s c b ∧ dv s c b ≤ 17000 := by
  have := bc_rng hc hb
  unfold dv
  rw [Int.tdiv_eq_ediv_of_nonneg (by omega)]
  refine ⟨Int.ediv_nonneg (by omega) (by omega), ?_⟩
  have := Int.ediv_le_self (b : Int) (show 0 ≤ s + b * c + b - 1 by omega)
  omega
theorem bm_rng {s c : Int} (hs : 0 ≤ s ∧ s ≤ 16000) (hc : 0 ≤ c ∧ c ≤ 100) : ∀ k : Nat, k ≤ 9 → 0 ≤ bm s c k ∧ bm s c k ≤ 16100
  | 0, _ => by simp only [bm]; omega
  | k + 1, h => by
    have := bm_rng hs hc k (by omega)
    have := dv_rng hs hc (b := k + 1) (by omega) (by omega)
    simp only [bm]; omega
theorem bm_mono (s c : Int) {i k : Nat} (h : i ≤ k) : bm s c k ≤ bm s c i := by
  induction k with
  | zero => obtain rfl : i = 0 := by omega
            exact Int.le_refl _
  | succ k ih =>
    by_cases e : i = k + 1
    · subst e; exact Int.le_refl _
    · have := ih (by omega)
      simp only [bm]; omega
abbrev bOK (b c : Int) : Prop := (1 ≤ b ∧ b ≤ 8) ∧ 0 ≤ c ∧ c ≤ 100
open Classical in
noncomputable def bdR (l : List B) (b c : Int) : Int × Int :=
  if VL l then if bOK b c then if l.length = 0 then (0, 0) else (max (bm (sm l l.length) c (min b.toNat l.length)) (lg l l.length + c), 0) else (0, 2) else (0, 60)
theorem pc59 (b c : Int) : PC Try.prog 59 [.i .i64 b, .i .i64 c] (.b (decide (bOK b c))) := by
  refine pc_fn fn59 (by simp only [AV.plains, AV.plain, il_plain, bl_plain, Bool.and_true, Bool.true_and, Bool.and_self]) (by simp only [AV.plains, AV.plain, il_plain, bl_plain, Bool.and_true, Bool.true_and, Bool.and_self]) (Nat.le_of_ble_eq_true rfl) ?_
  rw [initSt2]
  repeat' first | (with_reducible first | refine k_seq ?_ | refine k_skip ?_ | refine k_blkS ?_ | refine k_blkR ?_ | refine k_blkC ?_ | refine k_blkH ?_ | refine k_blkB ?_ | refine k_blkK ?_ | refine k_blkE ?_ | refine k_reg ?_) | with_reducible refine r_done ?_ | with_reducible refine s_go (by simp (disch := omega) only [c59r0, c59r1, EVA, plug, ite_same, decide_true, decide_false, eq_self, simprocAttr]; with_reducible rfl) ?_ | ((with_reducible refine chk_r ?_); refine r_callF (by simp only [CA, Nat.reduceEqDiff, ↓reduceIte]; rfl) (by exact rfl) (by simp only [CA, Nat.reduceEqDiff, ↓reduceIte]; rfl) rfl ?_) | ((with_reducible refine chk_r ?_); refine r_callP (by simp only [CA, Nat.reduceEqDiff, ↓reduceIte]; rfl) (by simp only [CA, Nat.reduceEqDiff, ↓reduceIte]; rfl) (by first | exact pc63 _ _ _ _) rfl ?_) | ((with_reducible refine chk_r ?_); refine r_callG (by simp only [CA, Nat.reduceEqDiff, ↓reduceIte]; rfl) (by simp only [CA, Nat.reduceEqDiff, ↓reduceIte]; rfl) (by simp only [CA, Nat.reduceEqDiff, ↓reduceIte]; rfl) (by intro hg; (try simp only [BO] at hg); first | exact pc63 _ _ _ _) rfl ?_) | (with_reducible refine k_condP (by simp only [GA, Nat.reduceEqDiff, ↓reduceIte]; rfl) (by first | (simp only [BO]; rfl) | rfl) (fun ht => ?_) (fun ht => ?_) <;> try (first | exact False.elim ht | exact absurd rfl ht | exact absurd trivial ht | exact Bool.noConfusion ht)) | (with_reducible refine k_ret ?_; repeat with_reducible (first | refine ret_thru ?_ | refine ret_blk ?_ | refine fin ?_)) | (with_reducible refine k_exit ?_; repeat with_reducible (first | refine thru ?_ | refine out_blk ?_ | refine pass (by decide) ?_)) | ((first | refine post1 ?_ | refine post2 ?_ | refine post3 ?_); simp only [GA, Nat.reduceEqDiff, ↓reduceIte]) | (refine postc (by simp only [GA, Nat.reduceEqDiff, ↓reduceIte]; rfl) (by simp (disch := omega) only [c59r0, c59r1, EVA, plug, ite_same, decide_true, decide_false, eq_self, simprocAttr]; rfl) ?_) | refine post0 ?_
  refine ends_eq (b_eq ?_); rw [Bool.eq_iff_iff]
  simp [bOK]
theorem RG27 : (type_of% @c27r0.eq_1) ∧ (type_of% @c27r1.eq_1) ∧ (type_of% @c27r2.eq_1) ∧ (type_of% @c27r3.eq_1) ∧ (type_of% @c27r4.eq_1) ∧ (type_of% @c27r5.eq_1) ∧ (type_of% @c27r6.eq_1) ∧ (type_of% @c27r7.eq_1) ∧ (type_of% @c27r8.eq_1) ∧ (type_of% @c27r9.eq_1) ∧ (type_of% @c27r10.eq_1) ∧ (type_of% @c27r11.eq_1) ∧ (type_of% @c27r12.eq_1) ∧ (type_of% @c27r13.eq_1) ∧ (type_of% @c27r15.eq_1) ∧ (type_of% @c27r16.eq_1) ∧ (type_of% @c27r17.eq_1) ∧ (type_of% @c27r18.eq_1) ∧ (type_of% @c27r19.eq_1) ∧ (type_of% @c27r21.eq_1) := ⟨@c27r0.eq_1, @c27r1.eq_1, @c27r2.eq_1, @c27r3.eq_1, @c27r4.eq_1, @c27r5.eq_1, @c27r6.eq_1, @c27r7.eq_1, @c27r8.eq_1, @c27r9.eq_1, @c27r10.eq_1, @c27r11.eq_1, @c27r12.eq_1, @c27r13.eq_1, @c27r15.eq_1, @c27r16.eq_1, @c27r17.eq_1, @c27r18.eq_1, @c27r19.eq_1, @c27r21.eq_1⟩
set_option maxHeartbeats 1000000 in
theorem pc27 (l : List B) (hl : l.length ≤ 9223372036854775807) (b c : Int) : PC Try.prog 27 [vB l, .i .i64 b, .i .i64 c] (.tu [.i .i64 (bdR l b c).1, .i .i64 (bdR l b c).2]) := by
  refine pc_fn fn27 (by simp only [AV.plains, AV.plain, il_plain, bl_plain, Bool.and_true, Bool.true_and, Bool.and_self, flB_plain]) (by simp only [AV.plains, AV.plain, il_plain, bl_plain, Bool.and_true, Bool.true_and, Bool.and_self, flB_plain]) (Nat.le_of_ble_eq_true rfl) ?_
  rw [initSt3]
  have q26 := pc26 l hl
  have q59 := pc59 b c
  unfold bdR
  by_cases hv : VL l
  · rw [if_pos hv]
    rw [vl_t hv] at q26
    have hl6 := hv.len
    by_cases hc : bOK b c
    · rw [if_pos hc]
      rw [decide_eq_true hc] at q59
      obtain ⟨⟨b1, b2⟩, c1, c2⟩ := hc
      obtain ⟨bn, hbn⟩ : ∃ bn : Nat, b = bn := ⟨b.toNat, by omega⟩
      by_cases h0 : l.length = 0
      · rw [if_pos h0]
        have h0' : ((l.length : Int) = 0) = True := eq_true (by omega)
        repeat' first | (with_reducible first | refine k_seq ?_ | refine k_skip ?_ | refine k_blkS ?_ | refine k_blkR ?_ | refine k_blkC ?_ | refine k_blkH ?_ | refine k_blkB ?_ | refine k_blkK ?_ | refine k_blkE ?_ | refine k_reg ?_) | with_reducible refine r_done ?_ | with_reducible refine s_go (by simp (disch := omega) only [h0', RG27, EVA, plug, ite_same, decide_true, decide_false, eq_self, simprocAttr]; with_reducible rfl) ?_ | ((with_reducible refine chk_r ?_); refine r_callF (by simp only [CA, Nat.reduceEqDiff, ↓reduceIte]; rfl) (by exact rfl) (by simp only [CA, Nat.reduceEqDiff, ↓reduceIte]; rfl) rfl ?_) | ((with_reducible refine chk_r ?_); refine r_callP (by simp only [CA, Nat.reduceEqDiff, ↓reduceIte]; rfl) (by simp only [CA, Nat.reduceEqDiff, ↓reduceIte]; rfl) (by first | exact q26 _ | exact q59 _) rfl ?_) | (with_reducible refine k_condP (by simp only [GA, Nat.reduceEqDiff, ↓reduceIte]; rfl) (by first | (simp only [BO]; rfl) | rfl) (fun ht => ?_) (fun ht => ?_) <;> try (first | exact False.elim ht | exact absurd rfl ht | exact absurd trivial ht | exact Bool.noConfusion ht)) | (with_reducible refine k_ret ?_; repeat with_reducible (first | refine ret_thru ?_ | refine ret_blk ?_ | refine fin ?_)) | (with_reducible refine k_exit ?_; repeat with_reducible (first | refine thru ?_ | refine out_blk ?_ | refine pass (by decide) ?_)) | ((first | refine post1 ?_ | refine post2 ?_ | refine post3 ?_); simp only [GA, Nat.reduceEqDiff, ↓reduceIte]) | (refine postc (by simp only [GA, Nat.reduceEqDiff, ↓reduceIte]; rfl) (by simp (disch := omega) only [h0', RG27, EVA, plug, ite_same, decide_true, decide_false, eq_self, simprocAttr]; rfl) ?_) | refine post0 ?_
        all_goals first | exact ends_of | exact ends_eq rfl
      · rw [if_neg h0]
        have h0' : ((l.length : Int) = 0) = False := eq_false (by omega)
        repeat' first | (with_reducible first | refine k_seq ?_ | refine k_skip ?_ | refine k_blkS ?_ | refine k_blkR ?_ | refine k_blkC ?_ | refine k_blkH ?_ | refine k_blkB ?_ | refine k_blkK ?_ | refine k_blkE ?_ | refine k_reg ?_) | with_reducible refine r_done ?_ | with_reducible refine s_go (by simp (disch := omega) only [h0', RG27, EVA, plug, ite_same, decide_true, decide_false, eq_self, simprocAttr]; with_reducible rfl) ?_ | ((with_reducible refine chk_r ?_); refine r_callF (by simp only [CA, Nat.reduceEqDiff, ↓reduceIte]; rfl) (by exact rfl) (by simp only [CA, Nat.reduceEqDiff, ↓reduceIte]; rfl) rfl ?_) | ((with_reducible refine chk_r ?_); refine r_callP (by simp only [CA, Nat.reduceEqDiff, ↓reduceIte]; rfl) (by simp only [CA, Nat.reduceEqDiff, ↓reduceIte]; rfl) (by first | exact q26 _ | exact q59 _) rfl ?_) | (with_reducible refine k_condP (by simp only [GA, Nat.reduceEqDiff, ↓reduceIte]; rfl) (by first | (simp only [BO]; rfl) | rfl) (fun ht => ?_) (fun ht => ?_) <;> try (first | exact False.elim ht | exact absurd rfl ht | exact absurd trivial ht | exact Bool.noConfusion ht)) | (with_reducible refine k_ret ?_; repeat with_reducible (first | refine ret_thru ?_ | refine ret_blk ?_ | refine fin ?_)) | (with_reducible refine k_exit ?_; repeat with_reducible (first | refine thru ?_ | refine out_blk ?_ | refine pass (by decide) ?_)) | ((first | refine post1 ?_ | refine post2 ?_ | refine post3 ?_); simp only [GA, Nat.reduceEqDiff, ↓reduceIte]) | (refine postc (by simp only [GA, Nat.reduceEqDiff, ↓reduceIte]; rfl) (by simp (disch := omega) only [h0', RG27, EVA, plug, ite_same, decide_true, decide_false, eq_self, simprocAttr]; rfl) ?_) | refine post0 ?_
        refine k_blk (k_loopS (X := Unit) [0, 1, 2, 8, 9, 27, 28, 29] l.length (fun k _ => [(0, vB l), (1, .i .i64 b), (2, .i .i64 c), (8, .i .i64 (sm l k)), (9, .i .i64 (lg l k)), (27, vB l), (28, .i .i64 l.length), (29, .i .i64 (k : Int))]) (fun k _ h => True) () (by simp only [Am.keep, List.map_cons, List.map_nil, GA, Nat.reduceEqDiff, ↓reduceIte]; try rfl) trivial ?_)
        rintro k _ h hk - ok pos
        by_cases hlt : k < l.length
        · have hlt' : (k : Int) < l.length := by omega
          have rA := rdB hlt
          have q60 := pc60 (bD l k) (hv.b hlt)
          have s1 := sm_rng hv k (by omega)
          have s2 := hrs_rng (hv.b hlt)
          have s3 := lg_rng hv k (by omega)
          have e1 : sm l k + hrs (bD l k) = sm l (k + 1) := rfl
          have e2 : max (lg l k) (hrs (bD l k)) = lg l (k + 1) := rfl
          have s4 := sm_rng hv (k + 1) (by omega)
          simp only [eB] at rA q60
          repeat' first | (with_reducible first | refine k_seq ?_ | refine k_skip ?_ | refine k_blkS ?_ | refine k_blkR ?_ | refine k_blkC ?_ | refine k_blkH ?_ | refine k_blkB ?_ | refine k_blkK ?_ | refine k_blkE ?_ | refine k_reg ?_) | with_reducible refine r_done ?_ | with_reducible refine s_go (by simp (disch := omega) only [hlt', rA, e1, e2, RG27, EVA, plug, ite_same, decide_true, decide_false, eq_self, simprocAttr]; with_reducible rfl) ?_ | ((with_reducible refine chk_r ?_); refine r_callF (by simp only [CA, Nat.reduceEqDiff, ↓reduceIte]; rfl) (by exact rfl) (by simp only [CA, Nat.reduceEqDiff, ↓reduceIte]; rfl) rfl ?_) | ((with_reducible refine chk_r ?_); refine r_callP (by simp only [CA, Nat.reduceEqDiff, ↓reduceIte]; rfl) (by simp only [CA, Nat.reduceEqDiff, ↓reduceIte]; rfl) (by first | exact q60 _) rfl ?_) | (with_reducible refine k_condP (by simp only [GA, Nat.reduceEqDiff, ↓reduceIte]; rfl) (by first | (simp only [BO]; rfl) | rfl) (fun ht => ?_) (fun ht => ?_) <;> try (first | exact False.elim ht | exact absurd rfl ht | exact absurd trivial ht | exact Bool.noConfusion ht)) | (with_reducible refine k_ret ?_; repeat with_reducible (first | refine ret_thru ?_ | refine ret_blk ?_ | refine fin ?_)) | (with_reducible refine k_exit ?_; repeat with_reducible (first | refine thru ?_ | refine out_blk ?_ | refine pass (by decide) ?_)) | ((first | refine post1 ?_ | refine post2 ?_ | refine post3 ?_); simp only [GA, Nat.reduceEqDiff, ↓reduceIte]) | (refine postc (by simp only [GA, Nat.reduceEqDiff, ↓reduceIte]; rfl) (by simp (disch := omega) only [hlt', rA, e1, e2, RG27, EVA, plug, ite_same, decide_true, decide_false, eq_self, simprocAttr]; rfl) ?_) | refine post0 ?_
          exact ⟨hlt, (), (by simp only [Am.keep, List.map_cons, List.map_nil, GA, Nat.reduceEqDiff, ↓reduceIte]; try rfl), trivial⟩
        · obtain rfl : k = l.length := by omega
          have hlt' : ¬ (l.length : Int) < l.length := by omega
          have hs := sm_rng hv l.length (Nat.le_refl _)
          have hg := lg_rng hv l.length (Nat.le_refl _)
          have hs' : 0 ≤ sm l l.length ∧ sm l l.length ≤ 16000 := by omega
          generalize sm l l.length = s at hs hs' ⊢
          generalize lg l l.length = g at hg ⊢
          have em : min b (l.length : Int) = ((min bn l.length : Nat) : Int) := by omega
          have em2 : min b.toNat l.length = min bn l.length := by omega
          rw [em2]
          have mle : min bn l.length ≤ 8 := by omega
          generalize min bn l.length = m at em mle ⊢
          repeat' first | (with_reducible first | refine k_seq ?_ | refine k_skip ?_ | refine k_blkS ?_ | refine k_blkR ?_ | refine k_blkC ?_ | refine k_blkH ?_ | refine k_blkB ?_ | refine k_blkK ?_ | refine k_blkE ?_ | refine k_reg ?_) | with_reducible refine r_done ?_ | with_reducible refine s_go (by simp (disch := omega) only [hlt', RG27, EVA, plug, ite_same, decide_true, decide_false, eq_self, simprocAttr]; with_reducible rfl) ?_ | ((with_reducible refine chk_r ?_); refine r_callF (by simp only [CA, Nat.reduceEqDiff, ↓reduceIte]; rfl) (by exact rfl) (by simp only [CA, Nat.reduceEqDiff, ↓reduceIte]; rfl) rfl ?_) | (with_reducible refine k_condP (by simp only [GA, Nat.reduceEqDiff, ↓reduceIte]; rfl) (by first | (simp only [BO]; rfl) | rfl) (fun ht => ?_) (fun ht => ?_) <;> try (first | exact False.elim ht | exact absurd rfl ht | exact absurd trivial ht | exact Bool.noConfusion ht)) | (with_reducible refine k_ret ?_; repeat with_reducible (first | refine ret_thru ?_ | refine ret_blk ?_ | refine fin ?_)) | (with_reducible refine k_exit ?_; repeat with_reducible (first | refine thru ?_ | refine out_blk ?_ | refine pass (by decide) ?_)) | ((first | refine post1 ?_ | refine post2 ?_ | refine post3 ?_); simp only [GA, Nat.reduceEqDiff, ↓reduceIte]) | (refine postc (by simp only [GA, Nat.reduceEqDiff, ↓reduceIte]; rfl) (by simp (disch := omega) only [hlt', RG27, EVA, plug, ite_same, decide_true, decide_false, eq_self, simprocAttr]; rfl) ?_) | refine post0 ?_
          refine k_blk (k_loopS (X := Unit) [0, 1, 2, 8, 9, 12, 13] m (fun k _ => [(0, vB l), (1, .i .i64 b), (2, .i .i64 c), (8, .i .i64 s), (9, .i .i64 g), (12, .i .i64 (bm s c k)), (13, .i .i64 ((k + 1 : Nat) : Int))]) (fun k _ h => True) () (by simp only [Am.keep, List.map_cons, List.map_nil, GA, Nat.reduceEqDiff, ↓reduceIte]; try rfl) trivial ?_)
          rintro k _ h hk - ok pos
          have r1 := bm_rng hs' ⟨c1, c2⟩ k (by omega)
          by_cases klt : k < m
          · have klt' : ((k + 1 : Nat) : Int) ≤ (m : Int) := by omega
            have r2 := bc_rng ⟨c1, c2⟩ (b := k + 1) (by omega)
            have r3 := dv_rng hs' ⟨c1, c2⟩ (b := k + 1) (by omega) (by omega)
            have e3 : (s + ((k + 1 : Nat) : Int) * c + ((k + 1 : Nat) : Int) - 1).tdiv ((k + 1 : Nat) : Int) = dv s c (k + 1) := rfl
            have e4 : min (bm s c k) (dv s c (k + 1)) = bm s c (k + 1) := rfl
            have nz : (((k + 1 : Nat) : Int) = 0) = False := eq_false (by omega)
            repeat' first | (with_reducible first | refine k_seq ?_ | refine k_skip ?_ | refine k_blkS ?_ | refine k_blkR ?_ | refine k_blkC ?_ | refine k_blkH ?_ | refine k_blkB ?_ | refine k_blkK ?_ | refine k_blkE ?_ | refine k_reg ?_) | with_reducible refine r_done ?_ | with_reducible refine s_go (by simp (disch := omega) only [klt', em, e3, e4, nz, RG27, EVA, plug, ite_same, decide_true, decide_false, eq_self, simprocAttr]; with_reducible rfl) ?_ | ((with_reducible refine chk_r ?_); refine r_callF (by simp only [CA, Nat.reduceEqDiff, ↓reduceIte]; rfl) (by exact rfl) (by simp only [CA, Nat.reduceEqDiff, ↓reduceIte]; rfl) rfl ?_) | (with_reducible refine k_condP (by simp only [GA, Nat.reduceEqDiff, ↓reduceIte]; rfl) (by first | (simp only [BO]; rfl) | rfl) (fun ht => ?_) (fun ht => ?_) <;> try (first | exact False.elim ht | exact absurd rfl ht | exact absurd trivial ht | exact Bool.noConfusion ht)) | (with_reducible refine k_ret ?_; repeat with_reducible (first | refine ret_thru ?_ | refine ret_blk ?_ | refine fin ?_)) | (with_reducible refine k_exit ?_; repeat with_reducible (first | refine thru ?_ | refine out_blk ?_ | refine pass (by decide) ?_)) | ((first | refine post1 ?_ | refine post2 ?_ | refine post3 ?_); simp only [GA, Nat.reduceEqDiff, ↓reduceIte]) | (refine postc (by simp only [GA, Nat.reduceEqDiff, ↓reduceIte]; rfl) (by simp (disch := omega) only [klt', em, e3, e4, nz, RG27, EVA, plug, ite_same, decide_true, decide_false, eq_self, simprocAttr]; rfl) ?_) | refine post0 ?_
            exact ⟨klt, (), (by simp only [Am.keep, List.map_cons, List.map_nil, GA, Nat.reduceEqDiff, ↓reduceIte]; try rfl), trivial⟩
          · obtain rfl : k = m := by omega
            have klt' : ¬ ((k + 1 : Nat) : Int) ≤ (k : Int) := by omega
            repeat' first | (with_reducible first | refine k_seq ?_ | refine k_skip ?_ | refine k_blkS ?_ | refine k_blkR ?_ | refine k_blkC ?_ | refine k_blkH ?_ | refine k_blkB ?_ | refine k_blkK ?_ | refine k_blkE ?_ | refine k_reg ?_) | with_reducible refine r_done ?_ | with_reducible refine s_go (by simp (disch := omega) only [klt', em, RG27, EVA, plug, ite_same, decide_true, decide_false, eq_self, simprocAttr]; with_reducible rfl) ?_ | ((with_reducible refine chk_r ?_); refine r_callF (by simp only [CA, Nat.reduceEqDiff, ↓reduceIte]; rfl) (by exact rfl) (by simp only [CA, Nat.reduceEqDiff, ↓reduceIte]; rfl) rfl ?_) | (with_reducible refine k_condP (by simp only [GA, Nat.reduceEqDiff, ↓reduceIte]; rfl) (by first | (simp only [BO]; rfl) | rfl) (fun ht => ?_) (fun ht => ?_) <;> try (first | exact False.elim ht | exact absurd rfl ht | exact absurd trivial ht | exact Bool.noConfusion ht)) | (with_reducible refine k_ret ?_; repeat with_reducible (first | refine ret_thru ?_ | refine ret_blk ?_ | refine fin ?_)) | (with_reducible refine k_exit ?_; repeat with_reducible (first | refine thru ?_ | refine out_blk ?_ | refine pass (by decide) ?_)) | ((first | refine post1 ?_ | refine post2 ?_ | refine post3 ?_); simp only [GA, Nat.reduceEqDiff, ↓reduceIte]) | (refine postc (by simp only [GA, Nat.reduceEqDiff, ↓reduceIte]; rfl) (by simp (disch := omega) only [klt', em, RG27, EVA, plug, ite_same, decide_true, decide_false, eq_self, simprocAttr]; rfl) ?_) | refine post0 ?_
            all_goals first | exact ends_of | exact ends_eq rfl
    · rw [if_neg hc]
      rw [decide_eq_false hc] at q59
      repeat' first | (with_reducible first | refine k_seq ?_ | refine k_skip ?_ | refine k_blkS ?_ | refine k_blkR ?_ | refine k_blkC ?_ | refine k_blkH ?_ | refine k_blkB ?_ | refine k_blkK ?_ | refine k_blkE ?_ | refine k_reg ?_) | with_reducible refine r_done ?_ | with_reducible refine s_go (by simp (disch := omega) only [RG27, EVA, plug, ite_same, decide_true, decide_false, eq_self, simprocAttr]; with_reducible rfl) ?_ | ((with_reducible refine chk_r ?_); refine r_callF (by simp only [CA, Nat.reduceEqDiff, ↓reduceIte]; rfl) (by exact rfl) (by simp only [CA, Nat.reduceEqDiff, ↓reduceIte]; rfl) rfl ?_) | ((with_reducible refine chk_r ?_); refine r_callP (by simp only [CA, Nat.reduceEqDiff, ↓reduceIte]; rfl) (by simp only [CA, Nat.reduceEqDiff, ↓reduceIte]; rfl) (by first | exact q26 _ | exact q59 _) rfl ?_) | (with_reducible refine k_condP (by simp only [GA, Nat.reduceEqDiff, ↓reduceIte]; rfl) (by first | (simp only [BO]; rfl) | rfl) (fun ht => ?_) (fun ht => ?_) <;> try (first | exact False.elim ht | exact absurd rfl ht | exact absurd trivial ht | exact Bool.noConfusion ht)) | (with_reducible refine k_ret ?_; repeat with_reducible (first | refine ret_thru ?_ | refine ret_blk ?_ | refine fin ?_)) | (with_reducible refine k_exit ?_; repeat with_reducible (first | refine thru ?_ | refine out_blk ?_ | refine pass (by decide) ?_)) | ((first | refine post1 ?_ | refine post2 ?_ | refine post3 ?_); simp only [GA, Nat.reduceEqDiff, ↓reduceIte]) | (refine postc (by simp only [GA, Nat.reduceEqDiff, ↓reduceIte]; rfl) (by simp (disch := omega) only [RG27, EVA, plug, ite_same, decide_true, decide_false, eq_self, simprocAttr]; rfl) ?_) | refine post0 ?_
      all_goals first | exact ends_of | exact ends_eq rfl
  · rw [if_neg hv]
    rw [vl_f hv] at q26
    repeat' first | (with_reducible first | refine k_seq ?_ | refine k_skip ?_ | refine k_blkS ?_ | refine k_blkR ?_ | refine k_blkC ?_ | refine k_blkH ?_ | refine k_blkB ?_ | refine k_blkK ?_ | refine k_blkE ?_ | refine k_reg ?_) | with_reducible refine r_done ?_ | with_reducible refine s_go (by simp (disch := omega) only [RG27, EVA, plug, ite_same, decide_true, decide_false, eq_self, simprocAttr]; with_reducible rfl) ?_ | ((with_reducible refine chk_r ?_); refine r_callF (by simp only [CA, Nat.reduceEqDiff, ↓reduceIte]; rfl) (by exact rfl) (by simp only [CA, Nat.reduceEqDiff, ↓reduceIte]; rfl) rfl ?_) | ((with_reducible refine chk_r ?_); refine r_callP (by simp only [CA, Nat.reduceEqDiff, ↓reduceIte]; rfl) (by simp only [CA, Nat.reduceEqDiff, ↓reduceIte]; rfl) (by first | exact q26 _) rfl ?_) | (with_reducible refine k_condP (by simp only [GA, Nat.reduceEqDiff, ↓reduceIte]; rfl) (by first | (simp only [BO]; rfl) | rfl) (fun ht => ?_) (fun ht => ?_) <;> try (first | exact False.elim ht | exact absurd rfl ht | exact absurd trivial ht | exact Bool.noConfusion ht)) | (with_reducible refine k_ret ?_; repeat with_reducible (first | refine ret_thru ?_ | refine ret_blk ?_ | refine fin ?_)) | (with_reducible refine k_exit ?_; repeat with_reducible (first | refine thru ?_ | refine out_blk ?_ | refine pass (by decide) ?_)) | ((first | refine post1 ?_ | refine post2 ?_ | refine post3 ?_); simp only [GA, Nat.reduceEqDiff, ↓reduceIte]) | (refine postc (by simp only [GA, Nat.reduceEqDiff, ↓reduceIte]; rfl) (by simp (disch := omega) only [RG27, EVA, plug, ite_same, decide_true, decide_false, eq_self, simprocAttr]; rfl) ?_) | refine post0 ?_
    all_goals first | exact ends_of | exact ends_eq rfl
end Go.Proofs.Ytjncfpfgobojpaa
set_option linter.unusedVariables false
set_option linter.unusedSimpArgs false
namespace Go.Proofs.Ytjncfpfgobojpaa
open Go Go.Am Go.Proofs Go.Sort
theorem getD_setb {us : List Bool} {i j : Nat} {v : Bool} (hi : i < us.length) : (us.set i v).getD j false = if j = i then v else us.getD j false := by
  by_cases e : j = i
  · subst e; simp [List.getD_eq_getElem?_getD, hi]
  · have : ¬ i = j := fun q => e q.symm
    simp [List.getD_eq_getElem?_getD, List.getElem?_set, this, e]
theorem GK.bad {l : List B} {ns : List Int} {k : Nat} (hk : k < ns.length) (h : ¬ (0 ≤ ni ns k ∧ ni ns k < l.length) ∨ hasI ns k (ni ns k)) : ¬ GK l ns ns.length := fun g => by
  have := g k hk
  rcases h with h | h
  · exact h ⟨this.1, this.2.1⟩
  · exact this.2.2 h
end Go.Proofs.Ytjncfpfgobojpaa
set_option linter.unusedVariables false
set_option linter.unusedSimpArgs false
namespace Go.Proofs.Ytjncfpfgobojpaa
open Go Go.Am Go.Proofs Go.Sort
theorem GK.le {l : List B} {ns : List Int} (g : GK l ns ns.length) : ns.length ≤ l.length := by
  refine IX.le (l := l) (fun x hx => ?_) (List.pairwise_iff_getElem.2 fun i j hi hj hij e => ?_)
  · obtain ⟨k, hk, e⟩ := List.getElem_of_mem hx
    have := g k hk
    have e' : ni ns k = x := by simp [ni, hk, e]
    rw [e'] at this
    exact ⟨this.1, this.2.1⟩
  · refine (g j hj).2.2 ⟨i, hij, ?_⟩
    simp only [ni]; rw [getD_lt hi, getD_lt hj]; exact e
theorem AP.no {l : List B} {ns : List Int} {k j : Nat} (hk : k < ns.length) (hj : j < k) {a b : Nat} (ea : ni ns k = a) (eb : ni ns j = b) (h : mayB (bD l a) (bD l b) = true ∨ mayB (bD l b) (bD l a) = true) : ¬ AP l ns ns.length := fun p => by
  have := p k hk j hj
  simp only [mayZ, mayI, ea, eb, Int.toNat_natCast] at this
  rcases h with h | h
  · rw [h] at this; exact absurd this.1 (by decide)
  · rw [h] at this; exact absurd this.2 (by decide)
def AQ (l : List B) (ns : List Int) (k j : Nat) : Prop := ∀ i, i < j → mayZ l (ni ns k) (ni ns i) = false ∧ mayZ l (ni ns i) (ni ns k) = false
theorem AQ.succ {l : List B} {ns : List Int} {k j : Nat} (p : AQ l ns k j) {a b : Nat} (ea : ni ns k = a) (eb : ni ns j = b) (h1 : mayB (bD l a) (bD l b) = false) (h2 : mayB (bD l b) (bD l a) = false) : AQ l ns k (j + 1) := fun i hi => by
  by_cases e : i = j
  · subst e
    simp only [mayZ, mayI, ea, eb, Int.toNat_natCast]
    exact ⟨h1, h2⟩
  · exact p i (by omega)
theorem AP.succ {l : List B} {ns : List Int} {k : Nat} (p : AP l ns k) (q : AQ l ns k k) : AP l ns (k + 1) := fun i hi j hj => by
  by_cases e : i = k
  · subst e; exact q j hj
  · exact p i (by omega) j hj
end Go.Proofs.Ytjncfpfgobojpaa
set_option linter.unusedVariables false
set_option linter.unusedSimpArgs false
namespace Go.Am
open Go.Proofs Go.Shelf Go.RowKit Go.Lib
theorem grow_new {P : Program} {ρ : Ren} (L : Lays8.n4 P ρ) (i0 : TypeInfo) (z : Value) (hi0 : P.info? (ρ.t 25) = some i0) (hz0 : i0.zero = some z) (hs0 : 0 < i0.size) (hz : z.cells.size = i0.size)
    {n : Nat} (hb : n * i0.bytes ≤ 140737488355328) (h63 : n ≤ 4611686018427387904) (h : AH) : FCalls P (ρ.f 4) [.sl 0 0 0 0, .i .i64 (n : Int)] h none 0 i0.size [] := by
  refine ⟨?_, fun ι w vs wr hv => ?_⟩
  · obtain ⟨nm, hn, hf⟩ := L.f4
    exact ⟨_, hf, hn, rfl⟩
  simp only [VRels] at hv
  obtain ⟨sv, r1, ev, hs, nv, r2, e2, hnv, rfl⟩ := hv
  subst e2
  obtain rfl : vs = #[sv, nv] := by cases vs; simp_all
  have hslice : ∃ p, sv = .slice p 0 0 := by
    simp only [VRel] at hs
    rcases hs with ⟨_, x, rfl⟩ | ⟨l, cap, hl, _⟩
    · exact ⟨_, rfl⟩
    · rw [wr.nil] at hl; cases hl
  obtain ⟨p, rfl⟩ := hslice
  simp only [VRel] at hnv
  subst hnv
  by_cases h0 : n = 0
  · subst h0
    refine Calls.mono (Any8.slices_Grow_room L p 0 0 0 w (Nat.le_refl _) (by omega) (by omega) (by omega)) fun e w' ⟨he, hw⟩ => ?_
    subst hw
    exact ⟨_, none, ι.φ, he, (fun l hl => by cases hl), PhiOk.refl _ _ _ _, fun ι' t ht _ => ⟨by simp only [plug, VRel]; exact .inl ⟨trivial, _, rfl⟩, .inl ⟨rfl, ht⟩⟩, rfl, rfl, rfl, Nat.le_refl _, fun b hb => rfl, Nat.le_refl _⟩
  · refine Calls.mono (Any8.slices_Grow_grow L i0 z hi0 hz0 hs0 p 0 0 n [] w (Nat.le_refl _) (by omega) (by rw [Nat.zero_add]; exact hb) (by omega) (by simp) (fun _ => rfl) (fun a _ j v hj => by simp at hj)) fun e w' ⟨he, hw⟩ => ?_
    have hG : 0 + n ≤ grownCap w (0 + n) 0 (ρ.t 25) := grownCap_ge w _ _ _
    generalize grownCap w (0 + n) 0 (ρ.t 25) = G at he hw hG
    obtain ⟨row, hrow⟩ : ∃ row : Array Value, row = ([] : List Value).toArray ++ Builtin.zeroCells z.cells (0 + n - 0) ++ Builtin.zeroCells z.cells (G - (0 + n)) := ⟨_, rfl⟩
    rw [← hrow] at hw
    have hsz : row.size = G * i0.size := by
      rw [hrow]
      simp only [Array.size_append, List.size_toArray, List.length_nil, Builtin.zeroCells, Array.size_map, Array.size_range, hz]
      rw [Nat.zero_add, ← Nat.add_mul]
      congr 1; omega
    subst hw
    have hh : (w.drew.alloc (.cells row (ρ.t 25))).heap[w.heap.size]? = some (.cells row (ρ.t 25) (0, 0)) := heap_alloc_new w.drew _
    refine ⟨_, some ⟨w.heap.size, 0, row.size⟩, ι.φ, he, (fun l hl => by cases hl; exact ⟨Nat.le_refl _, by rw [World.size_alloc]; exact Nat.lt_succ_self _⟩), PhiOk.refl _ _ _ _, fun ι' t ht _ => ⟨?_, ?_⟩, rfl, rfl, rfl, by rw [World.size_alloc]; exact Nat.le_succ _, fun b hb => Go.RowKit.Below.heap_alloc w.drew _ _ hb, Nat.le_succ _⟩
    · simp only [plug, VRel]
      exact .inr ⟨_, _, ht, rfl, Nat.zero_le _, .inr (by rw [hsz]; simp)⟩
    · exact .inr ⟨_, row, ρ.t 25, (0, 0), ht, hh, rfl, by simp, fun _ => rfl, fun i a hi => by simp at hi⟩
end Go.Am
namespace Go.Proofs.Ytjncfpfgobojpaa
open Go Go.Shelf Go.Proofs
def growI_ren : Go.Shelf.Ren := ⟨fun | 4 => 88 | n => n, fun | 0 => 0 | 3 => 3 | 4 => 4 | 9 => 9 | 20 => 20 | 22 => 49 | 25 => 3 | n => n, fun | n => n⟩
theorem growI : Go.Proofs.Lays8.n4 Try.prog growI_ren := {
  mixed := by kernel_rfl
  f4 := ⟨Try.f88.name, by decide, Try.func88.trans (congrArg some (by kernel_rfl))⟩
  t0 := Try.underlying0
  a0 := Try.isAgg0
  z0 := Try.sizeOf0
  v0 := Try.zeroValue0
  t3 := Try.underlying3
  a3 := Try.isAgg3
  z3 := Try.sizeOf3
  v3 := Try.zeroValue3
  t4 := Try.underlying4
  a4 := Try.isAgg4
  z4 := Try.sizeOf4
  v4 := Try.zeroValue4
  t9 := Try.underlying9
  a9 := Try.isAgg9
  z9 := Try.sizeOf9
  v9 := Try.zeroValue9
  t20 := Try.underlying20
  a20 := Try.isAgg20
  z20 := Try.sizeOf20
  v20 := Try.zeroValue20
  t22 := Try.underlying49
  a22 := Try.isAgg49
  z22 := Try.sizeOf49
  v22 := Try.zeroValue49 }
theorem info_int : (Try.prog.info? 3).map (fun i => (i.zero, i.size, i.bytes)) = some (some (.int .i64 0), 1, 8) := by kernel_rfl
theorem fc88 {n : Nat} (hn : n ≤ 1000000000) (h : Go.Am.AH) : Go.Am.FCalls Try.prog 88 [.sl 0 0 0 0, .i .i64 (n : Int)] h none 0 1 [] := by
  cases hi : Try.prog.info? 3 with
  | none => have := info_int; rw [hi] at this; cases this
  | some i =>
    have := info_int
    rw [hi] at this
    simp only [Option.map_some, Option.some.injEq, Prod.mk.injEq] at this
    obtain ⟨h1, h2, h3⟩ := this
    have := Go.Am.grow_new growI i (.int .i64 0) hi h1 (by omega) (by rw [h2]; rfl) (n := n) (by rw [h3]; omega) (by omega) h
    rwa [h2] at this
end Go.Proofs.Ytjncfpfgobojpaa
set_option linter.unusedVariables false
set_option linter.unusedSimpArgs false
namespace Go.Proofs.Ytjncfpfgobojpaa
open Go Go.Am Go.Proofs Go.Sort
def rvI (r : List Int) : AV := .vs r.length (il r)
abbrev vR (rows : List (List Int)) : AV := .vs rows.length (rows.map rvI)
theorem vR_plain (rows : List (List Int)) : AV.plains (rows.map rvI) = true := plains_all fun x hx => by
  obtain ⟨r, _, rfl⟩ := List.mem_map.1 hx
  exact il_plain r
theorem rvI_get {rows : List (List Int)} {k : Nat} (h : k < rows.length) : (rows.map rvI)[k]? = some (.vs (rI rows k).length (il (rI rows k))) := by
  simp [h, rvI, rI]
def fk (rows : List (List Int)) (k : Nat) : List Int := (rows.take k).flatten
theorem fk_succ {rows : List (List Int)} {k : Nat} (h : k < rows.length) : fk rows (k + 1) = fk rows k ++ rI rows k := by
  unfold fk
  rw [List.take_succ_eq_append_getElem h, List.flatten_append]
  simp [rI, h]
theorem fk_all (rows : List (List Int)) : fk rows rows.length = rows.flatten := by unfold fk; rw [List.take_length]
theorem fk_le (rows : List (List Int)) : ∀ k, (fk rows k).length ≤ rows.flatten.length := fun k => by
  unfold fk
  have : rows.flatten = (rows.take k).flatten ++ (rows.drop k).flatten := by rw [← List.flatten_append, List.take_append_drop]
  rw [this, List.length_append]; omega
theorem RG72 : (type_of% @c72r0.eq_1) ∧ (type_of% @c72r1.eq_1) ∧ (type_of% @c72r2.eq_1) ∧ (type_of% @c72r3.eq_1) ∧ (type_of% @c72r4.eq_1) ∧ (type_of% @c72r5.eq_1) ∧ (type_of% @c72r6.eq_1) ∧ (type_of% @c72r7.eq_1) ∧ (type_of% @c72r9.eq_1) ∧ (type_of% @c72r10.eq_1) ∧ (type_of% @c72r11.eq_1) ∧ (type_of% @c72r12.eq_1) ∧ (type_of% @c72r13.eq_1) ∧ (type_of% @c72r14.eq_1) ∧ (type_of% @c72r16.eq_1) := ⟨@c72r0.eq_1, @c72r1.eq_1, @c72r2.eq_1, @c72r3.eq_1, @c72r4.eq_1, @c72r5.eq_1, @c72r6.eq_1, @c72r7.eq_1, @c72r9.eq_1, @c72r10.eq_1, @c72r11.eq_1, @c72r12.eq_1, @c72r13.eq_1, @c72r14.eq_1, @c72r16.eq_1⟩
set_option maxHeartbeats 1000000 in
theorem pc72 (rows : List (List Int)) (hn : rows.length ≤ 1000000) (hs : rows.flatten.length ≤ 1000000) : PC Try.prog 72 [vR rows] (.vs rows.flatten.length (il rows.flatten)) := by
  refine pc_fn fn72 (by simp only [AV.plains, AV.plain, il_plain, bl_plain, Bool.and_true, Bool.true_and, Bool.and_self, vR_plain, il_plain]) (by simp only [AV.plains, AV.plain, il_plain, bl_plain, Bool.and_true, Bool.true_and, Bool.and_self, vR_plain, il_plain]) (Nat.le_of_ble_eq_true rfl) ?_
  rw [initSt1]
  repeat' first | (with_reducible first | refine k_seq ?_ | refine k_skip ?_ | refine k_blkS ?_ | refine k_blkR ?_ | refine k_blkC ?_ | refine k_blkH ?_ | refine k_blkB ?_ | refine k_blkK ?_ | refine k_blkE ?_ | refine k_reg ?_) | with_reducible refine r_done ?_ | with_reducible refine s_go (by simp (disch := omega) only [RG72, EVA, plug, ite_same, decide_true, decide_false, eq_self, simprocAttr]; with_reducible rfl) ?_ | ((with_reducible refine chk_r ?_); refine r_callF (by simp only [CA, Nat.reduceEqDiff, ↓reduceIte]; rfl) (by exact rfl) (by simp only [CA, Nat.reduceEqDiff, ↓reduceIte]; rfl) rfl ?_) | (with_reducible refine k_condP (by simp only [GA, Nat.reduceEqDiff, ↓reduceIte]; rfl) (by first | (simp only [BO]; rfl) | rfl) (fun ht => ?_) (fun ht => ?_) <;> try (first | exact False.elim ht | exact absurd rfl ht | exact absurd trivial ht | exact Bool.noConfusion ht)) | (with_reducible refine k_ret ?_; repeat with_reducible (first | refine ret_thru ?_ | refine ret_blk ?_ | refine fin ?_)) | (with_reducible refine k_exit ?_; repeat with_reducible (first | refine thru ?_ | refine out_blk ?_ | refine pass (by decide) ?_)) | ((first | refine post1 ?_ | refine post2 ?_ | refine post3 ?_); simp only [GA, Nat.reduceEqDiff, ↓reduceIte]) | (refine postc (by simp only [GA, Nat.reduceEqDiff, ↓reduceIte]; rfl) (by simp (disch := omega) only [RG72, EVA, plug, ite_same, decide_true, decide_false, eq_self, simprocAttr]; rfl) ?_) | refine post0 ?_
  refine k_blk (k_loopS (X := Unit) [0, 3, 9, 10, 11] rows.length (fun k _ => [(0, vR rows), (3, .i .i64 ((fk rows k).length : Int)), (9, vR rows), (10, .i .i64 rows.length), (11, .i .i64 (k : Int))]) (fun k _ h => True) () (by simp only [Am.keep, List.map_cons, List.map_nil, GA, Nat.reduceEqDiff, ↓reduceIte]; try rfl) trivial ?_)
  rintro k _ h hk - ok pos
  by_cases hlt : k < rows.length
  · have hlt' : (k : Int) < rows.length := by omega
    have g := rvI_get hlt
    have e := fk_succ hlt
    have l1 := fk_le rows k
    have l2 := fk_le rows (k + 1)
    have e1 : ((fk rows k).length : Int) + (rI rows k).length = ((fk rows (k + 1)).length : Int) := by rw [e, List.length_append]; omega
    have l3 : (rI rows k).length ≤ 1000000 := by rw [e, List.length_append] at l2; omega
    have nn : ¬ ((fk rows (k + 1)).length : Int) < 0 := by omega
    repeat' first | (with_reducible first | refine k_seq ?_ | refine k_skip ?_ | refine k_blkS ?_ | refine k_blkR ?_ | refine k_blkC ?_ | refine k_blkH ?_ | refine k_blkB ?_ | refine k_blkK ?_ | refine k_blkE ?_ | refine k_reg ?_) | with_reducible refine r_done ?_ | with_reducible refine s_go (by simp (disch := omega) only [hlt', g, e1, nn, RG72, EVA, plug, ite_same, decide_true, decide_false, eq_self, simprocAttr]; with_reducible rfl) ?_ | ((with_reducible refine chk_r ?_); refine r_callF (by simp only [CA, Nat.reduceEqDiff, ↓reduceIte]; rfl) (by exact rfl) (by simp only [CA, Nat.reduceEqDiff, ↓reduceIte]; rfl) rfl ?_) | (with_reducible refine k_condP (by simp only [GA, Nat.reduceEqDiff, ↓reduceIte]; rfl) (by first | (simp only [BO]; rfl) | rfl) (fun ht => ?_) (fun ht => ?_) <;> try (first | exact False.elim ht | exact absurd rfl ht | exact absurd trivial ht | exact Bool.noConfusion ht)) | (with_reducible refine k_ret ?_; repeat with_reducible (first | refine ret_thru ?_ | refine ret_blk ?_ | refine fin ?_)) | (with_reducible refine k_exit ?_; repeat with_reducible (first | refine thru ?_ | refine out_blk ?_ | refine pass (by decide) ?_)) | ((first | refine post1 ?_ | refine post2 ?_ | refine post3 ?_); simp only [GA, Nat.reduceEqDiff, ↓reduceIte]) | (refine postc (by simp only [GA, Nat.reduceEqDiff, ↓reduceIte]; rfl) (by simp (disch := omega) only [hlt', g, e1, nn, RG72, EVA, plug, ite_same, decide_true, decide_false, eq_self, simprocAttr]; rfl) ?_) | refine post0 ?_
    exact ⟨hlt, (), (by simp only [Am.keep, List.map_cons, List.map_nil, GA, Nat.reduceEqDiff, ↓reduceIte]; try rfl), trivial⟩
  · obtain rfl : k = rows.length := by omega
    have hlt' : ¬ (rows.length : Int) < rows.length := by omega
    rw [fk_all]
    repeat' first | (with_reducible first | refine k_seq ?_ | refine k_skip ?_ | refine k_blkS ?_ | refine k_blkR ?_ | refine k_blkC ?_ | refine k_blkH ?_ | refine k_blkB ?_ | refine k_blkK ?_ | refine k_blkE ?_ | refine k_reg ?_) | with_reducible refine r_done ?_ | with_reducible refine s_go (by simp (disch := omega) only [hlt', RG72, EVA, plug, ite_same, decide_true, decide_false, eq_self, simprocAttr]; with_reducible rfl) ?_ | ((with_reducible refine chk_r ?_); refine r_callF (by simp only [CA, Nat.reduceEqDiff, ↓reduceIte]; rfl) (by exact rfl) (by simp only [CA, Nat.reduceEqDiff, ↓reduceIte]; rfl) rfl ?_) | ((with_reducible refine chk_r ?_); refine r_callN (by simp only [CA, Nat.reduceEqDiff, ↓reduceIte]; rfl) (by simp only [CA, Nat.reduceEqDiff, ↓reduceIte]; rfl) (by first | exact fc88 (by omega) _) rfl ?_) | (with_reducible refine k_condP (by simp only [GA, Nat.reduceEqDiff, ↓reduceIte]; rfl) (by first | (simp only [BO]; rfl) | rfl) (fun ht => ?_) (fun ht => ?_) <;> try (first | exact False.elim ht | exact absurd rfl ht | exact absurd trivial ht | exact Bool.noConfusion ht)) | (with_reducible refine k_ret ?_; repeat with_reducible (first | refine ret_thru ?_ | refine ret_blk ?_ | refine fin ?_)) | (with_reducible refine k_exit ?_; repeat with_reducible (first | refine thru ?_ | refine out_blk ?_ | refine pass (by decide) ?_)) | ((first | refine post1 ?_ | refine post2 ?_ | refine post3 ?_); simp only [GA, Nat.reduceEqDiff, ↓reduceIte]) | (refine postc (by simp only [GA, Nat.reduceEqDiff, ↓reduceIte]; rfl) (by simp (disch := omega) only [hlt', RG72, EVA, plug, ite_same, decide_true, decide_false, eq_self, simprocAttr]; rfl) ?_) | refine post0 ?_
    refine k_blk (k_loopS (X := Nat) [6, 25, 26, 27] rows.length (fun k x => [(6, .sl x 0 (fk rows k).length 1), (25, vR rows), (26, .i .i64 rows.length), (27, .i .i64 (k : Int))]) (fun k x h => x ≠ 0 ∧ h.m x = some (.cells true (il (fk rows k)))) _ (by simp only [Am.keep, List.map_cons, List.map_nil, GA, Nat.reduceEqDiff, ↓reduceIte]; try rfl) ⟨?_, by simp (disch := omega) only [RG72, EVA, plug, ite_same, decide_true, decide_false, eq_self, simprocAttr] <;> rfl⟩ ?_)
    · omega
    rintro k x h2 hk ⟨hx, hm⟩ ok pos
    have hx' := ok.m hm
    by_cases hlt : k < rows.length
    · have hlt' : (k : Int) < rows.length := by omega
      have g := rvI_get hlt
      have e := fk_succ hlt
      have l2 := fk_le rows (k + 1)
      rw [e, List.length_append] at l2
      repeat' first | (with_reducible first | refine k_seq ?_ | refine k_skip ?_ | refine k_blkS ?_ | refine k_blkR ?_ | refine k_blkC ?_ | refine k_blkH ?_ | refine k_blkB ?_ | refine k_blkK ?_ | refine k_blkE ?_ | refine k_reg ?_) | with_reducible refine r_done ?_ | with_reducible refine s_go (by simp (disch := omega) only [hlt', g, hm, row_m hm, read_row (row_m hm), hx, il_len, il_app, il_one, RG72, EVA, plug, ite_same, decide_true, decide_false, eq_self, simprocAttr]; with_reducible rfl) ?_ | ((with_reducible refine chk_r ?_); refine r_callF (by simp only [CA, Nat.reduceEqDiff, ↓reduceIte]; rfl) (by exact rfl) (by simp only [CA, Nat.reduceEqDiff, ↓reduceIte]; rfl) rfl ?_) | (with_reducible refine k_condP (by simp only [GA, Nat.reduceEqDiff, ↓reduceIte]; rfl) (by first | (simp only [BO]; rfl) | rfl) (fun ht => ?_) (fun ht => ?_) <;> try (first | exact False.elim ht | exact absurd rfl ht | exact absurd trivial ht | exact Bool.noConfusion ht)) | (with_reducible refine k_ret ?_; repeat with_reducible (first | refine ret_thru ?_ | refine ret_blk ?_ | refine fin ?_)) | (with_reducible refine k_exit ?_; repeat with_reducible (first | refine thru ?_ | refine out_blk ?_ | refine pass (by decide) ?_)) | ((first | refine post1 ?_ | refine post2 ?_ | refine post3 ?_); simp only [GA, Nat.reduceEqDiff, ↓reduceIte]) | (refine postc (by simp only [GA, Nat.reduceEqDiff, ↓reduceIte]; rfl) (by simp (disch := omega) only [hlt', g, hm, row_m hm, read_row (row_m hm), hx, il_len, il_app, il_one, RG72, EVA, plug, ite_same, decide_true, decide_false, eq_self, simprocAttr]; rfl) ?_) | refine post0 ?_
      rw [e]
      exact ⟨hlt, _, (by simp only [Am.keep, List.map_cons, List.map_nil, GA, Nat.reduceEqDiff, ↓reduceIte, List.length_append]; rfl), by omega, by simp (disch := omega) only [RG72, EVA, plug, ite_same, decide_true, decide_false, eq_self, simprocAttr] <;> rfl⟩
    · obtain rfl : k = rows.length := by omega
      have hlt' : ¬ (rows.length : Int) < rows.length := by omega
      rw [fk_all] at hm ⊢
      repeat' first | (with_reducible first | refine k_seq ?_ | refine k_skip ?_ | refine k_blkS ?_ | refine k_blkR ?_ | refine k_blkC ?_ | refine k_blkH ?_ | refine k_blkB ?_ | refine k_blkK ?_ | refine k_blkE ?_ | refine k_reg ?_) | with_reducible refine r_done ?_ | with_reducible refine s_go (by simp (disch := omega) only [hlt', RG72, EVA, plug, ite_same, decide_true, decide_false, eq_self, simprocAttr]; with_reducible rfl) ?_ | ((with_reducible refine chk_r ?_); refine r_callF (by simp only [CA, Nat.reduceEqDiff, ↓reduceIte]; rfl) (by exact rfl) (by simp only [CA, Nat.reduceEqDiff, ↓reduceIte]; rfl) rfl ?_) | (with_reducible refine k_condP (by simp only [GA, Nat.reduceEqDiff, ↓reduceIte]; rfl) (by first | (simp only [BO]; rfl) | rfl) (fun ht => ?_) (fun ht => ?_) <;> try (first | exact False.elim ht | exact absurd rfl ht | exact absurd trivial ht | exact Bool.noConfusion ht)) | (with_reducible refine k_ret ?_; repeat with_reducible (first | refine ret_thru ?_ | refine ret_blk ?_ | refine fin ?_)) | (with_reducible refine k_exit ?_; repeat with_reducible (first | refine thru ?_ | refine out_blk ?_ | refine pass (by decide) ?_)) | ((first | refine post1 ?_ | refine post2 ?_ | refine post3 ?_); simp only [GA, Nat.reduceEqDiff, ↓reduceIte]) | (refine postc (by simp only [GA, Nat.reduceEqDiff, ↓reduceIte]; rfl) (by simp (disch := omega) only [hlt', RG72, EVA, plug, ite_same, decide_true, decide_false, eq_self, simprocAttr]; rfl) ?_) | refine post0 ?_
      exact ends_sl (k := 1) (by simp (disch := omega) only [hm, RG72, EVA, plug, ite_same, decide_true, decide_false, eq_self, simprocAttr] <;> rfl) (by simp [il_len])
end Go.Proofs.Ytjncfpfgobojpaa
set_option linter.unusedVariables false
set_option linter.unusedSimpArgs false
namespace Go.Proofs.Ytjncfpfgobojpaa
open Go Go.Am Go.Proofs Go.Sort
def fi (p : Nat → Bool) : Nat → Int
  | 0 => -1
  | k + 1 => if 0 ≤ fi p k then fi p k else if p k = true then k else -1
theorem fi_none {p : Nat → Bool} : ∀ {k : Nat}, (∀ j, j < k → p j = false) → fi p k = -1
  | 0, _ => rfl
  | k + 1, h => by
    have := fi_none (k := k) fun j hj => h j (by omega)
    simp only [fi, this, h k (by omega)]
    rfl
theorem fi_at {p : Nat → Bool} {k : Nat} (h : ∀ j, j < k → p j = false) (hp : p k = true) : ∀ {n : Nat}, k < n → fi p n = k
  | 0, hk => by omega
  | n + 1, hk => by
    by_cases e : k = n
    · subst e
      simp only [fi, fi_none h, hp, if_true]
      rfl
    · have := fi_at h hp (n := n) (by omega)
      simp only [fi, this]
      rw [if_pos (by omega)]
theorem fi_ge {p : Nat → Bool} : ∀ {n : Nat}, 0 ≤ fi p n ↔ ∃ j, j < n ∧ p j = true
  | 0 => by simp [fi]
  | n + 1 => by
    have ih := fi_ge (p := p) (n := n)
    simp only [fi]
    by_cases h : 0 ≤ fi p n
    · rw [if_pos h]
      exact ⟨fun _ => let ⟨j, hj, hp⟩ := ih.1 h; ⟨j, by omega, hp⟩, fun _ => h⟩
    · rw [if_neg h]
      by_cases hp : p n = true
      · rw [if_pos hp]
        exact ⟨fun _ => ⟨n, by omega, hp⟩, fun _ => by omega⟩
      · rw [if_neg hp]
        refine ⟨fun q => by omega, fun ⟨j, hj, q⟩ => ?_⟩
        exfalso
        by_cases e : j = n
        · subst e; exact hp q
        · exact h (ih.2 ⟨j, by omega, q⟩)
abbrev bdI (l : List B) (ns : List Int) (j : Nat) : Bool := !decide (0 ≤ ni ns j ∧ ni ns j < l.length)
theorem pc74 (l : List B) (hl : l.length ≤ 9223372036854775807) (x : Int) : PC Try.prog 74 [.i .i64 x, .pv [vB l] 0] (.b (!decide (0 ≤ x ∧ x < l.length))) := by
  refine pc_fn fn74 (by simp only [AV.plains, AV.plain, il_plain, bl_plain, Bool.and_true, Bool.true_and, Bool.and_self, flB_plain]) (by simp only [AV.plains, AV.plain, il_plain, bl_plain, Bool.and_true, Bool.true_and, Bool.and_self, flB_plain]) (Nat.le_of_ble_eq_true rfl) ?_
  rw [initSt2]
  have q := pc64 l hl x
  generalize decide (0 ≤ x ∧ x < l.length) = X at q ⊢
  repeat' first | (with_reducible first | refine k_seq ?_ | refine k_skip ?_ | refine k_blkS ?_ | refine k_blkR ?_ | refine k_blkC ?_ | refine k_blkH ?_ | refine k_blkB ?_ | refine k_blkK ?_ | refine k_blkE ?_ | refine k_reg ?_) | with_reducible refine r_done ?_ | with_reducible refine s_go (by simp (disch := omega) only [c74r0, c74r1, EVA, plug, ite_same, decide_true, decide_false, eq_self, simprocAttr]; with_reducible rfl) ?_ | ((with_reducible refine chk_r ?_); refine r_callF (by simp only [CA, Nat.reduceEqDiff, ↓reduceIte]; rfl) (by exact rfl) (by simp only [CA, Nat.reduceEqDiff, ↓reduceIte]; rfl) rfl ?_) | ((with_reducible refine chk_r ?_); refine r_callP (by simp only [CA, Nat.reduceEqDiff, ↓reduceIte]; rfl) (by simp only [CA, Nat.reduceEqDiff, ↓reduceIte]; rfl) (by first | exact q _) rfl ?_) | (with_reducible refine k_condP (by simp only [GA, Nat.reduceEqDiff, ↓reduceIte]; rfl) (by first | (simp only [BO]; rfl) | rfl) (fun ht => ?_) (fun ht => ?_) <;> try (first | exact False.elim ht | exact absurd rfl ht | exact absurd trivial ht | exact Bool.noConfusion ht)) | (with_reducible refine k_ret ?_; repeat with_reducible (first | refine ret_thru ?_ | refine ret_blk ?_ | refine fin ?_)) | (with_reducible refine k_exit ?_; repeat with_reducible (first | refine thru ?_ | refine out_blk ?_ | refine pass (by decide) ?_)) | ((first | refine post1 ?_ | refine post2 ?_ | refine post3 ?_); simp only [GA, Nat.reduceEqDiff, ↓reduceIte]) | (refine postc (by simp only [GA, Nat.reduceEqDiff, ↓reduceIte]; rfl) (by simp (disch := omega) only [c74r0, c74r1, EVA, plug, ite_same, decide_true, decide_false, eq_self, simprocAttr]; rfl) ?_) | refine post0 ?_
  all_goals first | exact ends_of | exact ends_eq rfl
theorem RG89 : (type_of% @c89r0.eq_1) ∧ (type_of% @c89r1.eq_1) ∧ (type_of% @c89r2.eq_1) ∧ (type_of% @c89r3.eq_1) ∧ (type_of% @c89r4.eq_1) ∧ (type_of% @c89r5.eq_1) ∧ (type_of% @c89r6.eq_1) ∧ (type_of% @c89r8.eq_1) := ⟨@c89r0.eq_1, @c89r1.eq_1, @c89r2.eq_1, @c89r3.eq_1, @c89r4.eq_1, @c89r5.eq_1, @c89r6.eq_1, @c89r8.eq_1⟩
theorem pc89 (l : List B) (hl : l.length ≤ 9223372036854775807) (ns : List Int) (hn : ns.length ≤ 9223372036854775807) : PC Try.prog 89 [vi ns, .fn 74 [] [.pv [vB l] 0]] (.i .i64 (fi (bdI l ns) ns.length)) := by
  refine pc_fn fn89 (by simp only [AV.plains, AV.plain, il_plain, bl_plain, Bool.and_true, Bool.true_and, Bool.and_self, flB_plain, il_plain]) (by simp only [AV.plains, AV.plain, il_plain, bl_plain, Bool.and_true, Bool.true_and, Bool.and_self, flB_plain, il_plain]) (Nat.le_of_ble_eq_true rfl) ?_
  rw [initSt2]
  repeat' first | (with_reducible first | refine k_seq ?_ | refine k_skip ?_ | refine k_blkS ?_ | refine k_blkR ?_ | refine k_blkC ?_ | refine k_blkH ?_ | refine k_blkB ?_ | refine k_blkK ?_ | refine k_blkE ?_ | refine k_reg ?_) | with_reducible refine r_done ?_ | with_reducible refine s_go (by simp (disch := omega) only [RG89, EVA, plug, ite_same, decide_true, decide_false, eq_self, simprocAttr]; with_reducible rfl) ?_ | ((with_reducible refine chk_r ?_); refine r_callF (by simp only [CA, Nat.reduceEqDiff, ↓reduceIte]; rfl) (by exact rfl) (by simp only [CA, Nat.reduceEqDiff, ↓reduceIte]; rfl) rfl ?_) | (with_reducible refine k_condP (by simp only [GA, Nat.reduceEqDiff, ↓reduceIte]; rfl) (by first | (simp only [BO]; rfl) | rfl) (fun ht => ?_) (fun ht => ?_) <;> try (first | exact False.elim ht | exact absurd rfl ht | exact absurd trivial ht | exact Bool.noConfusion ht)) | (with_reducible refine k_ret ?_; repeat with_reducible (first | refine ret_thru ?_ | refine ret_blk ?_ | refine fin ?_)) | (with_reducible refine k_exit ?_; repeat with_reducible (first | refine thru ?_ | refine out_blk ?_ | refine pass (by decide) ?_)) | ((first | refine post1 ?_ | refine post2 ?_ | refine post3 ?_); simp only [GA, Nat.reduceEqDiff, ↓reduceIte]) | (refine postc (by simp only [GA, Nat.reduceEqDiff, ↓reduceIte]; rfl) (by simp (disch := omega) only [RG89, EVA, plug, ite_same, decide_true, decide_false, eq_self, simprocAttr]; rfl) ?_) | refine post0 ?_
  refine k_blk (k_loopS (X := Unit) [0, 1, 7, 8] ns.length (fun k _ => [(0, vi ns), (1, .fn 74 [] [.pv [vB l] 0]), (7, .i .i64 ns.length), (8, .i .i64 (k : Int))]) (fun k _ h => ∀ j, j < k → bdI l ns j = false) () (by simp only [Am.keep, List.map_cons, List.map_nil, GA, Nat.reduceEqDiff, ↓reduceIte]; try rfl) (fun j hj => by omega) ?_)
  rintro k _ h hk hf ok pos
  by_cases hlt : k < ns.length
  · have hlt' : (k : Int) < ns.length := by omega
    have g := il_get hlt
    have q : PC Try.prog 74 [.i .i64 (ns.getD k 0), .pv [vB l] 0] (.b (bdI l ns k)) := pc74 l hl (ns.getD k 0)
    cases hm : bdI l ns k with
    | true =>
      rw [hm] at q
      rw [fi_at hf hm hlt]
      repeat' first | (with_reducible first | refine k_seq ?_ | refine k_skip ?_ | refine k_blkS ?_ | refine k_blkR ?_ | refine k_blkC ?_ | refine k_blkH ?_ | refine k_blkB ?_ | refine k_blkK ?_ | refine k_blkE ?_ | refine k_reg ?_) | with_reducible refine r_done ?_ | with_reducible refine s_go (by simp (disch := omega) only [hlt', g, RG89, EVA, plug, ite_same, decide_true, decide_false, eq_self, simprocAttr]; with_reducible rfl) ?_ | ((with_reducible refine chk_r ?_); refine r_callF (by simp only [CA, Nat.reduceEqDiff, ↓reduceIte]; rfl) (by exact rfl) (by simp only [CA, Nat.reduceEqDiff, ↓reduceIte]; rfl) rfl ?_) | ((with_reducible refine chk_r ?_); refine r_callP (by simp only [CA, Nat.reduceEqDiff, ↓reduceIte]; rfl) (by simp only [CA, Nat.reduceEqDiff, ↓reduceIte]; rfl) (by first | exact q _) rfl ?_) | (with_reducible refine k_condP (by simp only [GA, Nat.reduceEqDiff, ↓reduceIte]; rfl) (by first | (simp only [BO]; rfl) | rfl) (fun ht => ?_) (fun ht => ?_) <;> try (first | exact False.elim ht | exact absurd rfl ht | exact absurd trivial ht | exact Bool.noConfusion ht)) | (with_reducible refine k_ret ?_; repeat with_reducible (first | refine ret_thru ?_ | refine ret_blk ?_ | refine fin ?_)) | (with_reducible refine k_exit ?_; repeat with_reducible (first | refine thru ?_ | refine out_blk ?_ | refine pass (by decide) ?_)) | ((first | refine post1 ?_ | refine post2 ?_ | refine post3 ?_); simp only [GA, Nat.reduceEqDiff, ↓reduceIte]) | (refine postc (by simp only [GA, Nat.reduceEqDiff, ↓reduceIte]; rfl) (by simp (disch := omega) only [hlt', g, RG89, EVA, plug, ite_same, decide_true, decide_false, eq_self, simprocAttr]; rfl) ?_) | refine post0 ?_
      all_goals first | exact ends_of | exact ends_eq rfl
    | false =>
      rw [hm] at q
      repeat' first | (with_reducible first | refine k_seq ?_ | refine k_skip ?_ | refine k_blkS ?_ | refine k_blkR ?_ | refine k_blkC ?_ | refine k_blkH ?_ | refine k_blkB ?_ | refine k_blkK ?_ | refine k_blkE ?_ | refine k_reg ?_) | with_reducible refine r_done ?_ | with_reducible refine s_go (by simp (disch := omega) only [hlt', g, RG89, EVA, plug, ite_same, decide_true, decide_false, eq_self, simprocAttr]; with_reducible rfl) ?_ | ((with_reducible refine chk_r ?_); refine r_callF (by simp only [CA, Nat.reduceEqDiff, ↓reduceIte]; rfl) (by exact rfl) (by simp only [CA, Nat.reduceEqDiff, ↓reduceIte]; rfl) rfl ?_) | ((with_reducible refine chk_r ?_); refine r_callP (by simp only [CA, Nat.reduceEqDiff, ↓reduceIte]; rfl) (by simp only [CA, Nat.reduceEqDiff, ↓reduceIte]; rfl) (by first | exact q _) rfl ?_) | (with_reducible refine k_condP (by simp only [GA, Nat.reduceEqDiff, ↓reduceIte]; rfl) (by first | (simp only [BO]; rfl) | rfl) (fun ht => ?_) (fun ht => ?_) <;> try (first | exact False.elim ht | exact absurd rfl ht | exact absurd trivial ht | exact Bool.noConfusion ht)) | (with_reducible refine k_ret ?_; repeat with_reducible (first | refine ret_thru ?_ | refine ret_blk ?_ | refine fin ?_)) | (with_reducible refine k_exit ?_; repeat with_reducible (first | refine thru ?_ | refine out_blk ?_ | refine pass (by decide) ?_)) | ((first | refine post1 ?_ | refine post2 ?_ | refine post3 ?_); simp only [GA, Nat.reduceEqDiff, ↓reduceIte]) | (refine postc (by simp only [GA, Nat.reduceEqDiff, ↓reduceIte]; rfl) (by simp (disch := omega) only [hlt', g, RG89, EVA, plug, ite_same, decide_true, decide_false, eq_self, simprocAttr]; rfl) ?_) | refine post0 ?_
      refine ⟨hlt, (), (by simp only [Am.keep, List.map_cons, List.map_nil, GA, Nat.reduceEqDiff, ↓reduceIte]; try rfl), fun j hj => ?_⟩
      by_cases e : j = k
      · subst e; exact hm
      · exact hf j (by omega)
  · obtain rfl : k = ns.length := by omega
    have hlt' : ¬ (ns.length : Int) < ns.length := by omega
    rw [fi_none hf]
    repeat' first | (with_reducible first | refine k_seq ?_ | refine k_skip ?_ | refine k_blkS ?_ | refine k_blkR ?_ | refine k_blkC ?_ | refine k_blkH ?_ | refine k_blkB ?_ | refine k_blkK ?_ | refine k_blkE ?_ | refine k_reg ?_) | with_reducible refine r_done ?_ | with_reducible refine s_go (by simp (disch := omega) only [hlt', RG89, EVA, plug, ite_same, decide_true, decide_false, eq_self, simprocAttr]; with_reducible rfl) ?_ | ((with_reducible refine chk_r ?_); refine r_callF (by simp only [CA, Nat.reduceEqDiff, ↓reduceIte]; rfl) (by exact rfl) (by simp only [CA, Nat.reduceEqDiff, ↓reduceIte]; rfl) rfl ?_) | (with_reducible refine k_condP (by simp only [GA, Nat.reduceEqDiff, ↓reduceIte]; rfl) (by first | (simp only [BO]; rfl) | rfl) (fun ht => ?_) (fun ht => ?_) <;> try (first | exact False.elim ht | exact absurd rfl ht | exact absurd trivial ht | exact Bool.noConfusion ht)) | (with_reducible refine k_ret ?_; repeat with_reducible (first | refine ret_thru ?_ | refine ret_blk ?_ | refine fin ?_)) | (with_reducible refine k_exit ?_; repeat with_reducible (first | refine thru ?_ | refine out_blk ?_ | refine pass (by decide) ?_)) | ((first | refine post1 ?_ | refine post2 ?_ | refine post3 ?_); simp only [GA, Nat.reduceEqDiff, ↓reduceIte]) | (refine postc (by simp only [GA, Nat.reduceEqDiff, ↓reduceIte]; rfl) (by simp (disch := omega) only [hlt', RG89, EVA, plug, ite_same, decide_true, decide_false, eq_self, simprocAttr]; rfl) ?_) | refine post0 ?_
    all_goals first | exact ends_of | exact ends_eq rfl
theorem pc73 (l : List B) (hl : l.length ≤ 9223372036854775807) (ns : List Int) (hn : ns.length ≤ 9223372036854775807) : PC Try.prog 73 [vi ns, .fn 74 [] [.pv [vB l] 0]] (.b (decide (0 ≤ fi (bdI l ns) ns.length))) := by
  refine pc_fn fn73 (by simp only [AV.plains, AV.plain, il_plain, bl_plain, Bool.and_true, Bool.true_and, Bool.and_self, flB_plain, il_plain]) (by simp only [AV.plains, AV.plain, il_plain, bl_plain, Bool.and_true, Bool.true_and, Bool.and_self, flB_plain, il_plain]) (Nat.le_of_ble_eq_true rfl) ?_
  rw [initSt2]
  have q := pc89 l hl ns hn
  generalize fi (bdI l ns) ns.length = X at q ⊢
  repeat' first | (with_reducible first | refine k_seq ?_ | refine k_skip ?_ | refine k_blkS ?_ | refine k_blkR ?_ | refine k_blkC ?_ | refine k_blkH ?_ | refine k_blkB ?_ | refine k_blkK ?_ | refine k_blkE ?_ | refine k_reg ?_) | with_reducible refine r_done ?_ | with_reducible refine s_go (by simp (disch := omega) only [c73r0, c73r1, EVA, plug, ite_same, decide_true, decide_false, eq_self, simprocAttr]; with_reducible rfl) ?_ | ((with_reducible refine chk_r ?_); refine r_callF (by simp only [CA, Nat.reduceEqDiff, ↓reduceIte]; rfl) (by exact rfl) (by simp only [CA, Nat.reduceEqDiff, ↓reduceIte]; rfl) rfl ?_) | ((with_reducible refine chk_r ?_); refine r_callP (by simp only [CA, Nat.reduceEqDiff, ↓reduceIte]; rfl) (by simp only [CA, Nat.reduceEqDiff, ↓reduceIte]; rfl) (by first | exact q _) rfl ?_) | (with_reducible refine k_condP (by simp only [GA, Nat.reduceEqDiff, ↓reduceIte]; rfl) (by first | (simp only [BO]; rfl) | rfl) (fun ht => ?_) (fun ht => ?_) <;> try (first | exact False.elim ht | exact absurd rfl ht | exact absurd trivial ht | exact Bool.noConfusion ht)) | (with_reducible refine k_ret ?_; repeat with_reducible (first | refine ret_thru ?_ | refine ret_blk ?_ | refine fin ?_)) | (with_reducible refine k_exit ?_; repeat with_reducible (first | refine thru ?_ | refine out_blk ?_ | refine pass (by decide) ?_)) | ((first | refine post1 ?_ | refine post2 ?_ | refine post3 ?_); simp only [GA, Nat.reduceEqDiff, ↓reduceIte]) | (refine postc (by simp only [GA, Nat.reduceEqDiff, ↓reduceIte]; rfl) (by simp (disch := omega) only [c73r0, c73r1, EVA, plug, ite_same, decide_true, decide_false, eq_self, simprocAttr]; rfl) ?_) | refine post0 ?_
  all_goals first | exact ends_of | exact ends_eq rfl
abbrev noB (us : List Bool) (j : Nat) : Bool := (false == us.getD j false)
theorem RG90 : (type_of% @c90r0.eq_1) ∧ (type_of% @c90r1.eq_1) ∧ (type_of% @c90r2.eq_1) ∧ (type_of% @c90r3.eq_1) ∧ (type_of% @c90r4.eq_1) ∧ (type_of% @c90r5.eq_1) ∧ (type_of% @c90r6.eq_1) ∧ (type_of% @c90r8.eq_1) := ⟨@c90r0.eq_1, @c90r1.eq_1, @c90r2.eq_1, @c90r3.eq_1, @c90r4.eq_1, @c90r5.eq_1, @c90r6.eq_1, @c90r8.eq_1⟩
theorem pc90 (us : List Bool) (hn : us.length ≤ 9223372036854775807) : PC Try.prog 90 [.vs us.length (bl us), .b false] (.i .i64 (fi (noB us) us.length)) := by
  refine pc_fn fn90 (by simp only [AV.plains, AV.plain, il_plain, bl_plain, Bool.and_true, Bool.true_and, Bool.and_self, bl_plain]) (by simp only [AV.plains, AV.plain, il_plain, bl_plain, Bool.and_true, Bool.true_and, Bool.and_self, bl_plain]) (Nat.le_of_ble_eq_true rfl) ?_
  rw [initSt2]
  repeat' first | (with_reducible first | refine k_seq ?_ | refine k_skip ?_ | refine k_blkS ?_ | refine k_blkR ?_ | refine k_blkC ?_ | refine k_blkH ?_ | refine k_blkB ?_ | refine k_blkK ?_ | refine k_blkE ?_ | refine k_reg ?_) | with_reducible refine r_done ?_ | with_reducible refine s_go (by simp (disch := omega) only [RG90, EVA, plug, ite_same, decide_true, decide_false, eq_self, simprocAttr]; with_reducible rfl) ?_ | ((with_reducible refine chk_r ?_); refine r_callF (by simp only [CA, Nat.reduceEqDiff, ↓reduceIte]; rfl) (by exact rfl) (by simp only [CA, Nat.reduceEqDiff, ↓reduceIte]; rfl) rfl ?_) | (with_reducible refine k_condP (by simp only [GA, Nat.reduceEqDiff, ↓reduceIte]; rfl) (by first | (simp only [BO]; rfl) | rfl) (fun ht => ?_) (fun ht => ?_) <;> try (first | exact False.elim ht | exact absurd rfl ht | exact absurd trivial ht | exact Bool.noConfusion ht)) | (with_reducible refine k_ret ?_; repeat with_reducible (first | refine ret_thru ?_ | refine ret_blk ?_ | refine fin ?_)) | (with_reducible refine k_exit ?_; repeat with_reducible (first | refine thru ?_ | refine out_blk ?_ | refine pass (by decide) ?_)) | ((first | refine post1 ?_ | refine post2 ?_ | refine post3 ?_); simp only [GA, Nat.reduceEqDiff, ↓reduceIte]) | (refine postc (by simp only [GA, Nat.reduceEqDiff, ↓reduceIte]; rfl) (by simp (disch := omega) only [RG90, EVA, plug, ite_same, decide_true, decide_false, eq_self, simprocAttr]; rfl) ?_) | refine post0 ?_
  refine k_blk (k_loopS (X := Unit) [0, 1, 7, 8] us.length (fun k _ => [(0, .vs us.length (bl us)), (1, .b false), (7, .i .i64 us.length), (8, .i .i64 (k : Int))]) (fun k _ h => ∀ j, j < k → noB us j = false) () (by simp only [Am.keep, List.map_cons, List.map_nil, GA, Nat.reduceEqDiff, ↓reduceIte]; try rfl) (fun j hj => by omega) ?_)
  rintro k _ h hk hf ok pos
  by_cases hlt : k < us.length
  · have hlt' : (k : Int) < us.length := by omega
    have g := bl_get hlt
    cases hm : us.getD k false with
    | false =>
      rw [hm] at g
      rw [fi_at hf (by simp only [noB, hm]; rfl) hlt]
      repeat' first | (with_reducible first | refine k_seq ?_ | refine k_skip ?_ | refine k_blkS ?_ | refine k_blkR ?_ | refine k_blkC ?_ | refine k_blkH ?_ | refine k_blkB ?_ | refine k_blkK ?_ | refine k_blkE ?_ | refine k_reg ?_) | with_reducible refine r_done ?_ | with_reducible refine s_go (by simp (disch := omega) only [hlt', g, RG90, EVA, plug, ite_same, decide_true, decide_false, eq_self, simprocAttr]; with_reducible rfl) ?_ | ((with_reducible refine chk_r ?_); refine r_callF (by simp only [CA, Nat.reduceEqDiff, ↓reduceIte]; rfl) (by exact rfl) (by simp only [CA, Nat.reduceEqDiff, ↓reduceIte]; rfl) rfl ?_) | (with_reducible refine k_condP (by simp only [GA, Nat.reduceEqDiff, ↓reduceIte]; rfl) (by first | (simp only [BO]; rfl) | rfl) (fun ht => ?_) (fun ht => ?_) <;> try (first | exact False.elim ht | exact absurd rfl ht | exact absurd trivial ht | exact Bool.noConfusion ht)) | (with_reducible refine k_ret ?_; repeat with_reducible (first | refine ret_thru ?_ | refine ret_blk ?_ | refine fin ?_)) | (with_reducible refine k_exit ?_; repeat with_reducible (first | refine thru ?_ | refine out_blk ?_ | refine pass (by decide) ?_)) | ((first | refine post1 ?_ | refine post2 ?_ | refine post3 ?_); simp only [GA, Nat.reduceEqDiff, ↓reduceIte]) | (refine postc (by simp only [GA, Nat.reduceEqDiff, ↓reduceIte]; rfl) (by simp (disch := omega) only [hlt', g, RG90, EVA, plug, ite_same, decide_true, decide_false, eq_self, simprocAttr]; rfl) ?_) | refine post0 ?_
      all_goals first | exact ends_of | exact ends_eq rfl
    | true =>
      rw [hm] at g
      repeat' first | (with_reducible first | refine k_seq ?_ | refine k_skip ?_ | refine k_blkS ?_ | refine k_blkR ?_ | refine k_blkC ?_ | refine k_blkH ?_ | refine k_blkB ?_ | refine k_blkK ?_ | refine k_blkE ?_ | refine k_reg ?_) | with_reducible refine r_done ?_ | with_reducible refine s_go (by simp (disch := omega) only [hlt', g, RG90, EVA, plug, ite_same, decide_true, decide_false, eq_self, simprocAttr]; with_reducible rfl) ?_ | ((with_reducible refine chk_r ?_); refine r_callF (by simp only [CA, Nat.reduceEqDiff, ↓reduceIte]; rfl) (by exact rfl) (by simp only [CA, Nat.reduceEqDiff, ↓reduceIte]; rfl) rfl ?_) | (with_reducible refine k_condP (by simp only [GA, Nat.reduceEqDiff, ↓reduceIte]; rfl) (by first | (simp only [BO]; rfl) | rfl) (fun ht => ?_) (fun ht => ?_) <;> try (first | exact False.elim ht | exact absurd rfl ht | exact absurd trivial ht | exact Bool.noConfusion ht)) | (with_reducible refine k_ret ?_; repeat with_reducible (first | refine ret_thru ?_ | refine ret_blk ?_ | refine fin ?_)) | (with_reducible refine k_exit ?_; repeat with_reducible (first | refine thru ?_ | refine out_blk ?_ | refine pass (by decide) ?_)) | ((first | refine post1 ?_ | refine post2 ?_ | refine post3 ?_); simp only [GA, Nat.reduceEqDiff, ↓reduceIte]) | (refine postc (by simp only [GA, Nat.reduceEqDiff, ↓reduceIte]; rfl) (by simp (disch := omega) only [hlt', g, RG90, EVA, plug, ite_same, decide_true, decide_false, eq_self, simprocAttr]; rfl) ?_) | refine post0 ?_
      refine ⟨hlt, (), (by simp only [Am.keep, List.map_cons, List.map_nil, GA, Nat.reduceEqDiff, ↓reduceIte]; try rfl), fun j hj => ?_⟩
      by_cases e : j = k
      · subst e; simp only [noB, hm]; rfl
      · exact hf j (by omega)
  · obtain rfl : k = us.length := by omega
    have hlt' : ¬ (us.length : Int) < us.length := by omega
    rw [fi_none hf]
    repeat' first | (with_reducible first | refine k_seq ?_ | refine k_skip ?_ | refine k_blkS ?_ | refine k_blkR ?_ | refine k_blkC ?_ | refine k_blkH ?_ | refine k_blkB ?_ | refine k_blkK ?_ | refine k_blkE ?_ | refine k_reg ?_) | with_reducible refine r_done ?_ | with_reducible refine s_go (by simp (disch := omega) only [hlt', RG90, EVA, plug, ite_same, decide_true, decide_false, eq_self, simprocAttr]; with_reducible rfl) ?_ | ((with_reducible refine chk_r ?_); refine r_callF (by simp only [CA, Nat.reduceEqDiff, ↓reduceIte]; rfl) (by exact rfl) (by simp only [CA, Nat.reduceEqDiff, ↓reduceIte]; rfl) rfl ?_) | (with_reducible refine k_condP (by simp only [GA, Nat.reduceEqDiff, ↓reduceIte]; rfl) (by first | (simp only [BO]; rfl) | rfl) (fun ht => ?_) (fun ht => ?_) <;> try (first | exact False.elim ht | exact absurd rfl ht | exact absurd trivial ht | exact Bool.noConfusion ht)) | (with_reducible refine k_ret ?_; repeat with_reducible (first | refine ret_thru ?_ | refine ret_blk ?_ | refine fin ?_)) | (with_reducible refine k_exit ?_; repeat with_reducible (first | refine thru ?_ | refine out_blk ?_ | refine pass (by decide) ?_)) | ((first | refine post1 ?_ | refine post2 ?_ | refine post3 ?_); simp only [GA, Nat.reduceEqDiff, ↓reduceIte]) | (refine postc (by simp only [GA, Nat.reduceEqDiff, ↓reduceIte]; rfl) (by simp (disch := omega) only [hlt', RG90, EVA, plug, ite_same, decide_true, decide_false, eq_self, simprocAttr]; rfl) ?_) | refine post0 ?_
    all_goals first | exact ends_of | exact ends_eq rfl
theorem pc75 (us : List Bool) (hn : us.length ≤ 9223372036854775807) : PC Try.prog 75 [.vs us.length (bl us), .b false] (.b (decide (0 ≤ fi (noB us) us.length))) := by
  refine pc_fn fn75 (by simp only [AV.plains, AV.plain, il_plain, bl_plain, Bool.and_true, Bool.true_and, Bool.and_self, bl_plain]) (by simp only [AV.plains, AV.plain, il_plain, bl_plain, Bool.and_true, Bool.true_and, Bool.and_self, bl_plain]) (Nat.le_of_ble_eq_true rfl) ?_
  rw [initSt2]
  have q := pc90 us hn
  generalize fi (noB us) us.length = X at q ⊢
  repeat' first | (with_reducible first | refine k_seq ?_ | refine k_skip ?_ | refine k_blkS ?_ | refine k_blkR ?_ | refine k_blkC ?_ | refine k_blkH ?_ | refine k_blkB ?_ | refine k_blkK ?_ | refine k_blkE ?_ | refine k_reg ?_) | with_reducible refine r_done ?_ | with_reducible refine s_go (by simp (disch := omega) only [c75r0, c75r1, EVA, plug, ite_same, decide_true, decide_false, eq_self, simprocAttr]; with_reducible rfl) ?_ | ((with_reducible refine chk_r ?_); refine r_callF (by simp only [CA, Nat.reduceEqDiff, ↓reduceIte]; rfl) (by exact rfl) (by simp only [CA, Nat.reduceEqDiff, ↓reduceIte]; rfl) rfl ?_) | ((with_reducible refine chk_r ?_); refine r_callP (by simp only [CA, Nat.reduceEqDiff, ↓reduceIte]; rfl) (by simp only [CA, Nat.reduceEqDiff, ↓reduceIte]; rfl) (by first | exact q _) rfl ?_) | (with_reducible refine k_condP (by simp only [GA, Nat.reduceEqDiff, ↓reduceIte]; rfl) (by first | (simp only [BO]; rfl) | rfl) (fun ht => ?_) (fun ht => ?_) <;> try (first | exact False.elim ht | exact absurd rfl ht | exact absurd trivial ht | exact Bool.noConfusion ht)) | (with_reducible refine k_ret ?_; repeat with_reducible (first | refine ret_thru ?_ | refine ret_blk ?_ | refine fin ?_)) | (with_reducible refine k_exit ?_; repeat with_reducible (first | refine thru ?_ | refine out_blk ?_ | refine pass (by decide) ?_)) | ((first | refine post1 ?_ | refine post2 ?_ | refine post3 ?_); simp only [GA, Nat.reduceEqDiff, ↓reduceIte]) | (refine postc (by simp only [GA, Nat.reduceEqDiff, ↓reduceIte]; rfl) (by simp (disch := omega) only [c75r0, c75r1, EVA, plug, ite_same, decide_true, decide_false, eq_self, simprocAttr]; rfl) ?_) | refine post0 ?_
  all_goals first | exact ends_of | exact ends_eq rfl
end Go.Proofs.Ytjncfpfgobojpaa
set_option linter.unusedVariables false
set_option linter.unusedSimpArgs false
namespace Go.Proofs.Ytjncfpfgobojpaa
open Go Go.Am Go.Proofs Go.Sort
theorem ck_err {l : List B} {rows : List (List Int)} (h : ¬ VL l) : ck l rows = 60 := by unfold ck; rw [if_neg h]
theorem ck_arg {l : List B} {rows : List (List Int)} (h : VL l) (i : ¬ IX l rows.flatten) : ck l rows = 2 := by unfold ck; rw [if_pos h, if_neg i]
theorem ck_two {l : List B} {rows : List (List Int)} (h : VL l) (i : IX l rows.flatten) (n : ¬ rows.flatten.Nodup) : ck l rows = 43 := by unfold ck; rw [if_pos h, if_pos i, if_neg n]
theorem ck_dirty {l : List B} {rows : List (List Int)} (h : VL l) (i : IX l rows.flatten) (n : rows.flatten.Nodup) (m : ¬ MYs l rows rows.length) : ck l rows = 61 := by unfold ck; rw [if_pos h, if_pos i, if_pos n, if_neg m]
theorem ck_end {l : List B} {rows : List (List Int)} (h : VL l) (i : IX l rows.flatten) (n : rows.flatten.Nodup) (m : MYs l rows rows.length) {E L : Prop} [Decidable E] [Decidable L] (e : (∃ r ∈ rows, r = []) ↔ E) (f : rows.flatten.length < l.length ↔ L) : ck l rows = if E ∨ L then 4 else 0 := by
  unfold ck; rw [if_pos h, if_pos i, if_pos n, if_pos m]
  by_cases q : E ∨ L
  · rw [if_pos q, if_pos (q.imp e.2 f.2)]
  · rw [if_neg q, if_neg fun z => q (z.imp e.1 f.1)]
structure InR (l : List B) (us : List Bool) (A : List Int) : Prop where
  len : us.length = l.length
  is : ∀ i : Nat, i < l.length → (us.getD i false = true ↔ (i : Int) ∈ A)
theorem InR.zero (l : List B) : InR l (List.replicate l.length false) [] := ⟨by simp, fun i hi => by simp [List.getD_eq_getElem?_getD, List.getElem?_replicate, hi]⟩
theorem InR.step {l : List B} {us : List Bool} {A : List Int} (h : InR l us A) {a : Nat} (ha : a < l.length) : InR l (us.set a true) (A ++ [(a : Int)]) := ⟨by rw [List.length_set]; exact h.len, fun i hi => by
  rw [getD_setb (by rw [h.len]; exact ha), List.mem_append, List.mem_singleton]
  by_cases e : i = a
  · subst e; simp
  · rw [if_neg e, h.is i hi]
    exact ⟨.inl, fun q => q.resolve_right fun q => e (by omega)⟩⟩
theorem InR.full {l : List B} {us : List Bool} {A : List Int} (h : InR l us A) (nd : A.Nodup) (ix : IX l A) : 0 ≤ fi (noB us) us.length ↔ A.length < l.length := by
  rw [fi_ge, h.len]
  constructor
  · rintro ⟨j, hj, q⟩
    have hn : ¬ (j : Int) ∈ A := fun m => by
      rw [noB, (h.is j hj).2 m] at q; cases q
    have := ints_le (A := (j : Int) :: A) (B := ixs l.length) (List.nodup_cons.2 ⟨hn, nd⟩) fun x hx => by
      rcases List.mem_cons.1 hx with rfl | hx
      · exact ixs_mem.2 (by omega)
      · exact ixs_mem.2 (ix x hx)
    rw [ixs_len, List.length_cons] at this
    omega
  · intro hlt
    refine Classical.byContradiction fun hn => ?_
    have := ints_le (A := ixs l.length) (B := A) (ixs_nodup _) fun x hx => by
      have hx := ixs_mem.1 hx
      obtain ⟨j, rfl⟩ : ∃ j : Nat, x = j := ⟨x.toNat, by omega⟩
      refine (h.is j (by omega)).1 ?_
      cases q : us.getD j false with
      | true => rfl
      | false => exact absurd ⟨j, by omega, by simp only [noB, q]; rfl⟩ hn
    rw [ixs_len] at this
    omega
theorem IX.fi {l : List B} {ns : List Int} (h : IX l ns) : fi (bdI l ns) ns.length = -1 := fi_none fun j hj => by
  have := h _ (List.getElem_mem hj)
  have e : ni ns j = ns[j] := by simp [ni, hj]
  simp only [bdI, e]
  rw [decide_eq_true this]; rfl
theorem IX.fi' {l : List B} {ns : List Int} (h : ¬ IX l ns) : 0 ≤ Ytjncfpfgobojpaa.fi (bdI l ns) ns.length := fi_ge.2 <| by
  refine Classical.byContradiction fun hn => h fun x hx => ?_
  obtain ⟨j, hj, e⟩ := List.getElem_of_mem hx
  have e2 : ni ns j = x := by simp [ni, hj, e]
  refine Classical.byContradiction fun q => hn ⟨j, hj, ?_⟩
  simp only [bdI, e2]
  rw [decide_eq_false q]; rfl
def fj (rows : List (List Int)) (i j : Nat) : List Int := fk rows i ++ (rI rows i).take j
theorem fj_succ {rows : List (List Int)} {i j : Nat} (hj : j < (rI rows i).length) : fj rows i (j + 1) = fj rows i j ++ [ni (rI rows i) j] := by
  unfold fj
  generalize rI rows i = r at hj ⊢
  rw [List.take_succ_eq_append_getElem hj, List.append_assoc]
  simp [ni, hj]
theorem fk_pre (rows : List (List Int)) (i : Nat) : ∃ R, rows.flatten = fk rows i ++ R := ⟨(rows.drop i).flatten, by unfold fk; rw [← List.flatten_append, List.take_append_drop]⟩
theorem fj_pre {rows : List (List Int)} {i : Nat} (hi : i < rows.length) (j : Nat) : ∃ R, rows.flatten = fj rows i j ++ R := by
  obtain ⟨R, e⟩ := fk_pre rows (i + 1)
  refine ⟨(rI rows i).drop j ++ R, ?_⟩
  rw [e, fk_succ hi]
  unfold fj
  simp only [List.append_assoc]
  rw [← List.append_assoc (List.take j _), List.take_append_drop]
theorem IX.at {l : List B} {rows : List (List Int)} (h : IX l rows.flatten) {i j : Nat} (hi : i < rows.length) (hj : j < (rI rows i).length) : ∃ a : Nat, a < l.length ∧ ni (rI rows i) j = a ∧ (il (rI rows i))[j]? = some (.i .i64 (a : Int)) := by
  obtain ⟨R, e⟩ := fj_pre hi (j + 1)
  rw [fj_succ hj] at e
  have := h (ni (rI rows i) j) (by rw [e]; simp)
  refine ⟨(ni (rI rows i) j).toNat, by omega, by omega, ?_⟩
  rw [il_get hj]
  have e2 : (rI rows i).getD j 0 = ((ni (rI rows i) j).toNat : Int) := by simp only [ni] at *; omega
  rw [e2]
theorem nd_pre {A R : List Int} {x : Int} {F : List Int} (e : F = A ++ [x] ++ R) (hx : x ∈ A) : ¬ F.Nodup := fun h => by
  rw [e, List.nodup_append] at h
  have h := h.1
  rw [List.nodup_append] at h
  exact h.2.2 x hx x (by simp) rfl
theorem nd_snoc {A : List Int} {x : Int} (h : A.Nodup) (hx : ¬ x ∈ A) : (A ++ [x]).Nodup := by
  rw [List.nodup_append]
  refine ⟨h, by simp, fun a ha b hb e => ?_⟩
  rw [List.mem_singleton] at hb
  subst hb; subst e; exact hx ha
def emp (rows : List (List Int)) (k : Nat) : Prop := ∃ i, i < k ∧ rI rows i = []
theorem emp_all {rows : List (List Int)} : (∃ r ∈ rows, r = []) ↔ emp rows rows.length := by
  constructor
  · rintro ⟨r, hr, e⟩
    obtain ⟨i, hi, e2⟩ := List.getElem_of_mem hr
    exact ⟨i, hi, by simp only [rI]; rw [getD_lt hi, e2]; exact e⟩
  · rintro ⟨i, hi, e⟩
    exact ⟨rI rows i, by simp only [rI]; rw [getD_lt hi]; exact List.getElem_mem hi, e⟩
noncomputable def empB (rows : List (List Int)) (k : Nat) : Bool := @decide (emp rows k) (Classical.propDecidable _)
theorem empB_iff {rows : List (List Int)} {k : Nat} : empB rows k = true ↔ emp rows k := by unfold empB; exact @decide_eq_true_iff _ (Classical.propDecidable _)
theorem empB_zero (rows : List (List Int)) : empB rows 0 = false := by
  cases h : empB rows 0 with
  | false => rfl
  | true => obtain ⟨i, hi, _⟩ := empB_iff.1 h; omega
theorem empB_succ (rows : List (List Int)) (k : Nat) : empB rows (k + 1) = (empB rows k || decide (((rI rows k).length : Int) = 0)) := by
  rw [Bool.eq_iff_iff, Bool.or_eq_true, empB_iff, empB_iff, decide_eq_true_eq]
  constructor
  · rintro ⟨i, hi, e⟩
    by_cases q : i = k
    · subst q; rw [e]; exact .inr rfl
    · exact .inl ⟨i, by omega, e⟩
  · rintro (⟨i, hi, e⟩ | e)
    · exact ⟨i, by omega, e⟩
    · exact ⟨k, by omega, List.length_eq_zero_iff.1 (by omega)⟩
theorem MYs.succ {l : List B} {rows : List (List Int)} {k : Nat} (h : MYs l rows k) (q : MY l (rI rows k) (rI rows k).length) : MYs l rows (k + 1) := fun i hi => by
  by_cases e : i = k
  · subst e; exact q
  · exact h i (by omega)
theorem MY.step {l : List B} {row : List Int} {j : Nat} (h : MY l row (j + 1)) (q : mayZ l (ni row j) (ni row (j + 1)) = true) : MY l row (j + 1 + 1) := fun i h0 hi => by
  by_cases e : i = j + 1
  · subst e; exact q
  · exact h i h0 (by omega)
theorem MY.no {l : List B} {rows : List (List Int)} {k j : Nat} (hk : k < rows.length) (hj : j + 1 < (rI rows k).length) (q : mayZ l (ni (rI rows k) j) (ni (rI rows k) (j + 1)) = false) : ¬ MYs l rows rows.length := fun h => by
  have := h k hk (j + 1) (by omega) hj
  rw [Nat.add_sub_cancel, q] at this; cases this
end Go.Proofs.Ytjncfpfgobojpaa
