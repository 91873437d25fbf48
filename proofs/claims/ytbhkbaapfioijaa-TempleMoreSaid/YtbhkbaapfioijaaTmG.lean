import Derived.Test.YtbhkbaapfioijaaTmF
set_option linter.unusedVariables false
set_option linter.unusedSimpArgs false
namespace Go.Proofs.Ytbhkbaapfioijaa
open Go Go.Am Go.Proofs Go.Sort

/-! ### A side -/
def nl (l : List Nat) : List AV := l.map fun (n : Nat) => AV.i .i64 (n : Int)
theorem nl_len (l : List Nat) : (nl l).length = l.length := by simp [nl]
theorem nl_snoc (l : List Nat) (x : Nat) : nl l ++ [.i .i64 (x : Int)] = nl (l ++ [x]) := by simp [nl]
theorem nl_plain (l : List Nat) : AV.plains (nl l) = true := plains_all fun x hx => by
  simp only [nl, List.mem_map] at hx
  obtain ⟨y, _, rfl⟩ := hx; rfl
theorem nl_one (l : List Nat) : (nl l).all AV.one = true := by simp [nl, AV.one]
theorem nl_get {l : List Nat} {j : Nat} (h : j < l.length) : (nl l)[j]? = some (.i .i64 (l.getD j 0 : Nat)) := by simp [nl, h]
def ltT (l : List T) (i k : Nat) : Bool := decide ((l.getD i T0).len < (l.getD k T0).len ∨ ((l.getD i T0).len = (l.getD k T0).len ∧ (l.getD i T0).num < (l.getD k T0).num))
theorem cmpT_lt (l : List T) (i k : Nat) : decide (cmpT l i k < 0) = ltT l i k := by
  unfold cmpT ltT orI orI orI cmpI
  rw [Bool.eq_iff_iff]
  simp only [decide_eq_true_eq]
  repeat' split
  all_goals omega
def onside (l : List T) (s c : Int) (i : Nat) : Bool := decide ((l.getD i T0).side = s ∧ (l.getD i T0).col = c)
def sfil (l : List T) (s c : Int) (k : Nat) : List Nat := (List.range k).filter (onside l s c)
theorem sfil_succ (l : List T) (s c : Int) (k : Nat) : sfil l s c (k + 1) = if onside l s c k = true then sfil l s c k ++ [k] else sfil l s c k := by
  unfold sfil
  rw [List.range_succ, List.filter_append]
  cases h : onside l s c k <;> simp [h]
theorem sfil_len (l : List T) (s c : Int) (k : Nat) : (sfil l s c k).length ≤ k := by
  unfold sfil
  exact Nat.le_trans (List.length_filter_le _ _) (by simp)
/-- the temples of a side and a colour, the shortest first -/
def sideL (l : List T) (s c : Int) : List Nat := (sfil l s c l.length).mergeSort fun i k => !ltT l k i

abbrev Ix (n : Nat) := { i : Nat // i < n }
theorem swoT (l : List T) : SWO (ltOf fun (x y : Ix l.length) => cmpT l x.1 y.1) where
  irrefl x := by simp only [ltOf, cmpT_lt, ltT]; simp
  trans x y z h1 h2 := by
    simp only [ltOf, cmpT_lt, ltT, decide_eq_true_eq] at *; omega
  ntrans x y z h1 h2 := by
    simp only [ltOf, cmpT_lt, ltT, decide_eq_false_iff_not] at *; omega
theorem encIx (n : Nat) : Enc1 (α := Ix n) (fun x => .i .i64 (x.1 : Int)) (fun x => .int .i64 (x.1 : Int)) := ⟨fun ι x v => by simp only [VRel], fun _ => rfl, fun _ => rfl⟩
/-- slices.SortFunc at indexes of a valid list -/
theorem sortT {l : List T} (hv : VL l) {h : AH} {t a : Nat} {ns : List Nat} (hm : h.m t = some (.cells true (nl ns))) (hn : ∀ i ∈ ns, i < l.length) (hlen : ns.length < 4611686018427387904) :
    ACalls Try.prog 77 [.sl t 0 ns.length a, .fn 81 [] [.pv [vT l] 0]] h fun r h' => r = .tu [] ∧ h' = h.set t (.cells true (nl (ns.mergeSort fun i k => !ltT l k i))) := by
  by_cases h0 : l.length = 0
  · -- no indexes at all
    have : ns = [] := by
      cases ns with
      | nil => rfl
      | cons x r => have := hn x (by simp); omega
    subst this
    refine ACalls.mono (sort_none sortL 81 [.pv [vT l] 0] h t 0 a) fun r h' ⟨e1, e2⟩ => ⟨e1, ?_⟩
    rw [e2, List.mergeSort_nil, set_self hm]
  · haveI : Inhabited (Ix l.length) := ⟨⟨0, by omega⟩⟩
    let d : List (Ix l.length) := ns.attachWith (· < l.length) hn
    have hd : d.map Subtype.val = ns := List.attachWith_map_subtype_val _
    have hd2 : d.map (fun x => AV.i .i64 (x.1 : Int)) = nl ns := by
      rw [← hd]; simp only [nl, List.map_map]; rfl
    have := sort_one sortL (encIx l.length) (swoT l) (fun x y h1 h2 => ?_) (g := 81) (caps := [.pv [vT l] 0]) (by simp only [AV.plains, AV.plain, il_plain, bl_plain, Bool.and_true, Bool.true_and, Bool.and_self, flT_plain]) (fun x y => pc81 l x.1 y.1 x.2 y.2) (h := h) (t := t) (a := a) (d := d) (by rw [hd2]; exact hm) (by simpa [d] using hlen)
    · have hl : d.length = ns.length := by rw [← hd]; simp
      rw [hl] at this
      refine ACalls.mono this fun r h' ⟨e1, e2⟩ => ⟨e1, ?_⟩
      rw [e2]
      have e3 : (d.mergeSort fun x y => !(ltOf (fun (x y : Ix l.length) => cmpT l x.1 y.1)) y x).map Subtype.val = ns.mergeSort fun i k => !ltT l k i := by
        rw [← hd]
        exact List.map_mergeSort fun a _ b _ => by simp only [ltOf, cmpT_lt]
      rw [← e3]; simp only [nl, List.map_map]; rfl
    · simp only [ltOf, cmpT_lt, ltT, decide_eq_false_iff_not] at h1 h2
      by_cases e : x.1 = y.1
      · exact Subtype.ext e
      · exfalso
        rcases Nat.lt_or_gt_of_ne e with q | q
        · have := hv.2.2 x.1 y.1 q y.2; omega
        · have := hv.2.2 y.1 x.1 q x.2; omega

theorem pc74 (l : List T) (hv : VL l) (s c : Int) : PC Try.prog 74 [vT l, .i .i64 s, .i .i64 c] (.vs (sideL l s c).length (nl (sideL l s c))) := by
  refine pc_fn fn74 (by simp only [AV.plains, AV.plain, il_plain, bl_plain, Bool.and_true, Bool.true_and, Bool.and_self, flT_plain, nl_plain]) (by simp only [AV.plains, AV.plain, il_plain, bl_plain, Bool.and_true, Bool.true_and, Bool.and_self, flT_plain, nl_plain]) (Nat.le_of_ble_eq_true rfl) ?_
  rw [initSt3]
  have hl := hv.len
  have q78 := pc78 l
  repeat' first
    | with_reducible refine k_seq ?_
    | with_reducible refine k_skip ?_
    | with_reducible refine k_blkS ?_
    | with_reducible refine k_blkR ?_
    | with_reducible refine k_blkC ?_
    | with_reducible refine k_blkH ?_
    | with_reducible refine k_blkB ?_
    | with_reducible refine k_blkK ?_
    | with_reducible refine k_blkE ?_
    | with_reducible refine k_reg ?_
    | with_reducible refine r_done ?_
    | with_reducible refine s_go (by simp (disch := omega) only [c74r0, c74r1, c74r2, c74r3, c74r4, c74r5, c74r6, c74r7, c74r9, c74r10, EV0, EV1, EV2, EV3, EV4, EV5, EV6, EV7, EV8, VALS, plug, ite_same, decide_true, decide_false, eq_self, ↓reduceIte, reduceCtorEq, Nat.reduceAdd, Nat.reduceEqDiff, Nat.reduceLT, Nat.reduceLeDiff, Nat.reduceMul, Nat.reduceSub, Nat.reduceDiv, Int.reduceToNat, Int.reduceAdd, Int.reduceSub, Int.reduceMul, Int.reduceNeg, Int.reduceEq, Int.reduceLT, Int.reduceLE]; with_reducible rfl) ?_
    | ((with_reducible refine chk_r ?_); refine r_callF (by simp only [CA, Nat.reduceEqDiff, ↓reduceIte]; rfl) (by exact rfl) (by simp only [CA, Nat.reduceEqDiff, ↓reduceIte]; rfl) rfl ?_)
    | (with_reducible refine k_condP (by simp only [GA, Nat.reduceEqDiff, ↓reduceIte]; rfl) (by first | (simp only [BO]; rfl) | rfl) (fun ht => ?_) (fun ht => ?_) <;> try (first | exact False.elim ht | exact absurd rfl ht | exact absurd trivial ht | exact Bool.noConfusion ht))
    | (with_reducible refine k_ret ?_; repeat with_reducible (first | refine ret_thru ?_ | refine ret_blk ?_ | refine fin ?_))
    | (with_reducible refine k_exit ?_; repeat with_reducible (first | refine thru ?_ | refine out_blk ?_ | refine pass (by decide) ?_))
    | (refine post1 ?_; simp only [GA, Nat.reduceEqDiff, ↓reduceIte])
    | (refine post2 ?_; simp only [GA, Nat.reduceEqDiff, ↓reduceIte])
    | (refine post3 ?_; simp only [GA, Nat.reduceEqDiff, ↓reduceIte])
    | (refine postc (by simp only [GA, Nat.reduceEqDiff, ↓reduceIte]; rfl) (by simp (disch := omega) only [c74r0, c74r1, c74r2, c74r3, c74r4, c74r5, c74r6, c74r7, c74r9, c74r10, EV0, EV1, EV2, EV3, EV4, EV5, EV6, EV7, EV8, VALS, plug, ite_same, decide_true, decide_false, eq_self, ↓reduceIte, reduceCtorEq, Nat.reduceAdd, Nat.reduceEqDiff, Nat.reduceLT, Nat.reduceLeDiff, Nat.reduceMul, Nat.reduceSub, Nat.reduceDiv, Int.reduceToNat, Int.reduceAdd, Int.reduceSub, Int.reduceMul, Int.reduceNeg, Int.reduceEq, Int.reduceLT, Int.reduceLE]; rfl) ?_)
    | refine post0 ?_
  refine w_virt 1 7 rfl ?_
  refine k_blk (k_loopS (X := Nat) [0, 1, 2, 7, 10, 11, 12] l.length (fun k x => [(0, vT l), (1, .i .i64 s), (2, .i .i64 c), (7, .sl x 0 (sfil l s c k).length 1), (10, vT l), (11, .i .i64 l.length), (12, .i .i64 (k : Int))])
    (fun k x h => x ≠ 0 ∧ h.m x = some (.cells true (nl (sfil l s c k)))) _ (by simp only [Am.keep, List.map_cons, List.map_nil, GA, Nat.reduceEqDiff, ↓reduceIte]; try rfl) ⟨?_, by simp (disch := omega) only [c74r0, c74r1, c74r2, c74r3, c74r4, c74r5, c74r6, c74r7, c74r9, c74r10, EV0, EV1, EV2, EV3, EV4, EV5, EV6, EV7, EV8, VALS, plug, ite_same, decide_true, decide_false, eq_self, ↓reduceIte, reduceCtorEq, Nat.reduceAdd, Nat.reduceEqDiff, Nat.reduceLT, Nat.reduceLeDiff, Nat.reduceMul, Nat.reduceSub, Nat.reduceDiv, Int.reduceToNat, Int.reduceAdd, Int.reduceSub, Int.reduceMul, Int.reduceNeg, Int.reduceEq, Int.reduceLT, Int.reduceLE] <;> rfl⟩ ?_)
  · decide
  rintro k x h hk ⟨hx, hm⟩ ok pos
  have hx' := ok.m hm
  have hfl := sfil_len l s c k
  by_cases hlt : k < l.length
  · have rT := rdT hlt
    have hlt' : (k : Int) < l.length := by omega
    simp only [eT] at rT
    have e1 : onside l s c k = (decide ((l.getD k T0).side = s) && decide ((l.getD k T0).col = c)) := by simp [onside]
    have fs := sfil_succ l s c k
    repeat' first
      | with_reducible refine k_seq ?_
      | with_reducible refine k_skip ?_
      | with_reducible refine k_blkS ?_
      | with_reducible refine k_blkR ?_
      | with_reducible refine k_blkC ?_
      | with_reducible refine k_blkH ?_
      | with_reducible refine k_blkB ?_
      | with_reducible refine k_blkK ?_
      | with_reducible refine k_blkE ?_
      | with_reducible refine k_reg ?_
      | with_reducible refine r_done ?_
      | with_reducible refine s_go (by simp (disch := omega) only [rT, hlt', hm, hx, nl_len, nl_snoc, c74r0, c74r1, c74r2, c74r3, c74r4, c74r5, c74r6, c74r7, c74r9, c74r10, EV0, EV1, EV2, EV3, EV4, EV5, EV6, EV7, EV8, VALS, plug, ite_same, decide_true, decide_false, eq_self, ↓reduceIte, reduceCtorEq, Nat.reduceAdd, Nat.reduceEqDiff, Nat.reduceLT, Nat.reduceLeDiff, Nat.reduceMul, Nat.reduceSub, Nat.reduceDiv, Int.reduceToNat, Int.reduceAdd, Int.reduceSub, Int.reduceMul, Int.reduceNeg, Int.reduceEq, Int.reduceLT, Int.reduceLE]; with_reducible rfl) ?_
      | ((with_reducible refine chk_r ?_); refine r_callF (by simp only [CA, Nat.reduceEqDiff, ↓reduceIte]; rfl) (by exact rfl) (by simp only [CA, Nat.reduceEqDiff, ↓reduceIte]; rfl) rfl ?_)
      | (with_reducible refine k_condP (by simp only [GA, Nat.reduceEqDiff, ↓reduceIte]; rfl) (by first | (simp only [BO]; rfl) | rfl) (fun ht => ?_) (fun ht => ?_) <;> try (first | exact False.elim ht | exact absurd rfl ht | exact absurd trivial ht | exact Bool.noConfusion ht))
      | (with_reducible refine k_ret ?_; repeat with_reducible (first | refine ret_thru ?_ | refine ret_blk ?_ | refine fin ?_))
      | (with_reducible refine k_exit ?_; repeat with_reducible (first | refine thru ?_ | refine out_blk ?_ | refine pass (by decide) ?_))
      | (refine post1 ?_; simp only [GA, Nat.reduceEqDiff, ↓reduceIte])
      | (refine post2 ?_; simp only [GA, Nat.reduceEqDiff, ↓reduceIte])
      | (refine post3 ?_; simp only [GA, Nat.reduceEqDiff, ↓reduceIte])
      | (refine postc (by simp only [GA, Nat.reduceEqDiff, ↓reduceIte]; rfl) (by simp (disch := omega) only [rT, hlt', hm, hx, nl_len, nl_snoc, c74r0, c74r1, c74r2, c74r3, c74r4, c74r5, c74r6, c74r7, c74r9, c74r10, EV0, EV1, EV2, EV3, EV4, EV5, EV6, EV7, EV8, VALS, plug, ite_same, decide_true, decide_false, eq_self, ↓reduceIte, reduceCtorEq, Nat.reduceAdd, Nat.reduceEqDiff, Nat.reduceLT, Nat.reduceLeDiff, Nat.reduceMul, Nat.reduceSub, Nat.reduceDiv, Int.reduceToNat, Int.reduceAdd, Int.reduceSub, Int.reduceMul, Int.reduceNeg, Int.reduceEq, Int.reduceLT, Int.reduceLE]; rfl) ?_)
      | refine post0 ?_
    · rw [e1, if_pos (by first | assumption | (simp only [Bool.and_eq_true, Bool.or_eq_true, decide_eq_true_eq]; assumption))] at fs
      rw [fs]
      refine ⟨hlt, ?tk, ?g1, ?g2, ?g3⟩
      case g1 =>
        simp only [Am.keep, List.map_cons, List.map_nil, GA, Nat.reduceEqDiff, ↓reduceIte, List.length_append, List.length_cons, List.length_nil, Nat.zero_add]
        rfl
      case g2 => omega
      case g3 => simp (disch := omega) only [c74r0, c74r1, c74r2, c74r3, c74r4, c74r5, c74r6, c74r7, c74r9, c74r10, EV0, EV1, EV2, EV3, EV4, EV5, EV6, EV7, EV8, VALS, plug, ite_same, decide_true, decide_false, eq_self, ↓reduceIte, reduceCtorEq, Nat.reduceAdd, Nat.reduceEqDiff, Nat.reduceLT, Nat.reduceLeDiff, Nat.reduceMul, Nat.reduceSub, Nat.reduceDiv, Int.reduceToNat, Int.reduceAdd, Int.reduceSub, Int.reduceMul, Int.reduceNeg, Int.reduceEq, Int.reduceLT, Int.reduceLE] <;> rfl
    · rw [e1, if_neg (by first | assumption | (simp only [Bool.and_eq_true, Bool.or_eq_true, decide_eq_true_eq]; assumption))] at fs
      rw [fs]
      exact ⟨hlt, x, (by simp only [Am.keep, List.map_cons, List.map_nil, GA, Nat.reduceEqDiff, ↓reduceIte]; try rfl), hx, by simp (disch := omega) only [hm, c74r0, c74r1, c74r2, c74r3, c74r4, c74r5, c74r6, c74r7, c74r9, c74r10, EV0, EV1, EV2, EV3, EV4, EV5, EV6, EV7, EV8, VALS, plug, ite_same, decide_true, decide_false, eq_self, ↓reduceIte, reduceCtorEq, Nat.reduceAdd, Nat.reduceEqDiff, Nat.reduceLT, Nat.reduceLeDiff, Nat.reduceMul, Nat.reduceSub, Nat.reduceDiv, Int.reduceToNat, Int.reduceAdd, Int.reduceSub, Int.reduceMul, Int.reduceNeg, Int.reduceEq, Int.reduceLT, Int.reduceLE]⟩
  · obtain rfl : k = l.length := by omega
    have hlt' : ¬ (l.length : Int) < l.length := by omega
    have q77 := fun h hm => sortT hv (h := h) (t := x) (a := 1) (ns := sfil l s c l.length) hm (fun i hi => by simp only [sfil, List.mem_filter, List.mem_range] at hi; exact hi.1) (by omega)
    repeat' first
      | with_reducible refine k_seq ?_
      | with_reducible refine k_skip ?_
      | with_reducible refine k_blkS ?_
      | with_reducible refine k_blkR ?_
      | with_reducible refine k_blkC ?_
      | with_reducible refine k_blkH ?_
      | with_reducible refine k_blkB ?_
      | with_reducible refine k_blkK ?_
      | with_reducible refine k_blkE ?_
      | with_reducible refine k_reg ?_
      | with_reducible refine r_done ?_
      | with_reducible refine s_go (by simp (disch := omega) only [hlt', c74r0, c74r1, c74r2, c74r3, c74r4, c74r5, c74r6, c74r7, c74r9, c74r10, EV0, EV1, EV2, EV3, EV4, EV5, EV6, EV7, EV8, VALS, plug, ite_same, decide_true, decide_false, eq_self, ↓reduceIte, reduceCtorEq, Nat.reduceAdd, Nat.reduceEqDiff, Nat.reduceLT, Nat.reduceLeDiff, Nat.reduceMul, Nat.reduceSub, Nat.reduceDiv, Int.reduceToNat, Int.reduceAdd, Int.reduceSub, Int.reduceMul, Int.reduceNeg, Int.reduceEq, Int.reduceLT, Int.reduceLE]; with_reducible rfl) ?_
      | ((with_reducible refine chk_r ?_); refine r_callF (by simp only [CA, Nat.reduceEqDiff, ↓reduceIte]; rfl) (by exact rfl) (by simp only [CA, Nat.reduceEqDiff, ↓reduceIte]; rfl) rfl ?_)
      | ((with_reducible refine chk_r ?_); refine r_callP (by simp only [CA, Nat.reduceEqDiff, ↓reduceIte]; rfl) (by simp only [CA, Nat.reduceEqDiff, ↓reduceIte]; rfl) (by first | exact q78 _) rfl ?_)
      | ((with_reducible refine chk_r ?_); refine r_callX (by simp only [CA, Nat.reduceEqDiff, ↓reduceIte]; rfl) (by simp only [CA, Nat.reduceEqDiff, ↓reduceIte]; rfl) (by first | exact q77 _ (by simp (disch := omega) only [hm, c74r0, c74r1, c74r2, c74r3, c74r4, c74r5, c74r6, c74r7, c74r9, c74r10, EV0, EV1, EV2, EV3, EV4, EV5, EV6, EV7, EV8, VALS, plug, ite_same, decide_true, decide_false, eq_self, ↓reduceIte, reduceCtorEq, Nat.reduceAdd, Nat.reduceEqDiff, Nat.reduceLT, Nat.reduceLeDiff, Nat.reduceMul, Nat.reduceSub, Nat.reduceDiv, Int.reduceToNat, Int.reduceAdd, Int.reduceSub, Int.reduceMul, Int.reduceNeg, Int.reduceEq, Int.reduceLT, Int.reduceLE] <;> rfl)) rfl ?_)
      | (with_reducible refine k_condP (by simp only [GA, Nat.reduceEqDiff, ↓reduceIte]; rfl) (by first | (simp only [BO]; rfl) | rfl) (fun ht => ?_) (fun ht => ?_) <;> try (first | exact False.elim ht | exact absurd rfl ht | exact absurd trivial ht | exact Bool.noConfusion ht))
      | (with_reducible refine k_ret ?_; repeat with_reducible (first | refine ret_thru ?_ | refine ret_blk ?_ | refine fin ?_))
      | (with_reducible refine k_exit ?_; repeat with_reducible (first | refine thru ?_ | refine out_blk ?_ | refine pass (by decide) ?_))
      | (refine post1 ?_; simp only [GA, Nat.reduceEqDiff, ↓reduceIte])
      | (refine post2 ?_; simp only [GA, Nat.reduceEqDiff, ↓reduceIte])
      | (refine post3 ?_; simp only [GA, Nat.reduceEqDiff, ↓reduceIte])
      | (refine postc (by simp only [GA, Nat.reduceEqDiff, ↓reduceIte]; rfl) (by simp (disch := omega) only [hlt', c74r0, c74r1, c74r2, c74r3, c74r4, c74r5, c74r6, c74r7, c74r9, c74r10, EV0, EV1, EV2, EV3, EV4, EV5, EV6, EV7, EV8, VALS, plug, ite_same, decide_true, decide_false, eq_self, ↓reduceIte, reduceCtorEq, Nat.reduceAdd, Nat.reduceEqDiff, Nat.reduceLT, Nat.reduceLeDiff, Nat.reduceMul, Nat.reduceSub, Nat.reduceDiv, Int.reduceToNat, Int.reduceAdd, Int.reduceSub, Int.reduceMul, Int.reduceNeg, Int.reduceEq, Int.reduceLT, Int.reduceLE]; rfl) ?_)
      | refine post0 ?_
    rintro r h' ⟨rfl, rfl⟩
    repeat' first
      | with_reducible refine k_seq ?_
      | with_reducible refine k_skip ?_
      | with_reducible refine k_blkS ?_
      | with_reducible refine k_blkR ?_
      | with_reducible refine k_blkC ?_
      | with_reducible refine k_blkH ?_
      | with_reducible refine k_blkB ?_
      | with_reducible refine k_blkK ?_
      | with_reducible refine k_blkE ?_
      | with_reducible refine k_reg ?_
      | with_reducible refine r_done ?_
      | with_reducible refine s_go (by simp (disch := omega) only [c74r0, c74r1, c74r2, c74r3, c74r4, c74r5, c74r6, c74r7, c74r9, c74r10, EV0, EV1, EV2, EV3, EV4, EV5, EV6, EV7, EV8, VALS, plug, ite_same, decide_true, decide_false, eq_self, ↓reduceIte, reduceCtorEq, Nat.reduceAdd, Nat.reduceEqDiff, Nat.reduceLT, Nat.reduceLeDiff, Nat.reduceMul, Nat.reduceSub, Nat.reduceDiv, Int.reduceToNat, Int.reduceAdd, Int.reduceSub, Int.reduceMul, Int.reduceNeg, Int.reduceEq, Int.reduceLT, Int.reduceLE]; with_reducible rfl) ?_
      | ((with_reducible refine chk_r ?_); refine r_callF (by simp only [CA, Nat.reduceEqDiff, ↓reduceIte]; rfl) (by exact rfl) (by simp only [CA, Nat.reduceEqDiff, ↓reduceIte]; rfl) rfl ?_)
      | (with_reducible refine k_condP (by simp only [GA, Nat.reduceEqDiff, ↓reduceIte]; rfl) (by first | (simp only [BO]; rfl) | rfl) (fun ht => ?_) (fun ht => ?_) <;> try (first | exact False.elim ht | exact absurd rfl ht | exact absurd trivial ht | exact Bool.noConfusion ht))
      | (with_reducible refine k_ret ?_; repeat with_reducible (first | refine ret_thru ?_ | refine ret_blk ?_ | refine fin ?_))
      | (with_reducible refine k_exit ?_; repeat with_reducible (first | refine thru ?_ | refine out_blk ?_ | refine pass (by decide) ?_))
      | (refine post1 ?_; simp only [GA, Nat.reduceEqDiff, ↓reduceIte])
      | (refine post2 ?_; simp only [GA, Nat.reduceEqDiff, ↓reduceIte])
      | (refine post3 ?_; simp only [GA, Nat.reduceEqDiff, ↓reduceIte])
      | (refine postc (by simp only [GA, Nat.reduceEqDiff, ↓reduceIte]; rfl) (by simp (disch := omega) only [c74r0, c74r1, c74r2, c74r3, c74r4, c74r5, c74r6, c74r7, c74r9, c74r10, EV0, EV1, EV2, EV3, EV4, EV5, EV6, EV7, EV8, VALS, plug, ite_same, decide_true, decide_false, eq_self, ↓reduceIte, reduceCtorEq, Nat.reduceAdd, Nat.reduceEqDiff, Nat.reduceLT, Nat.reduceLeDiff, Nat.reduceMul, Nat.reduceSub, Nat.reduceDiv, Int.reduceToNat, Int.reduceAdd, Int.reduceSub, Int.reduceMul, Int.reduceNeg, Int.reduceEq, Int.reduceLT, Int.reduceLE]; rfl) ?_)
      | refine post0 ?_
    have hms : (sideL l s c).length = (sfil l s c l.length).length := List.length_mergeSort _
    rw [hms]
    exact ends_sl (k := 1) (by simp (disch := omega) only [c74r0, c74r1, c74r2, c74r3, c74r4, c74r5, c74r6, c74r7, c74r9, c74r10, EV0, EV1, EV2, EV3, EV4, EV5, EV6, EV7, EV8, VALS, plug, ite_same, decide_true, decide_false, eq_self, ↓reduceIte, reduceCtorEq, Nat.reduceAdd, Nat.reduceEqDiff, Nat.reduceLT, Nat.reduceLeDiff, Nat.reduceMul, Nat.reduceSub, Nat.reduceDiv, Int.reduceToNat, Int.reduceAdd, Int.reduceSub, Int.reduceMul, Int.reduceNeg, Int.reduceEq, Int.reduceLT, Int.reduceLE] <;> rfl) (by rw [nl_len, hms]; omega)
end Go.Proofs.Ytbhkbaapfioijaa
