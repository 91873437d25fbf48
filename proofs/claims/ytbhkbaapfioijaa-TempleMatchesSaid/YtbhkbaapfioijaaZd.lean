/- What the proof of the law needs: the abstract machine, the functions as it reads them, their contracts, part 4. -/
import Derived.Test.YtbhkbaapfioijaaZc
set_option linter.unusedVariables false
set_option linter.unusedSimpArgs false
namespace Go.Proofs.Ytbhkbaapfioijaa
open Go Go.Am Go.Proofs Go.Sort
/-! ### A side -/
def nl (l : List Nat) : List AV := l.map fun (n : Nat) => AV.i .i64 (n : Int)
theorem nl_len (l : List Nat) : (nl l).length = l.length := by simp [nl]
theorem nl_snoc (l : List Nat) (x : Nat) : nl l ++ [.i .i64 (x : Int)] = nl (l ++ [x]) := by simp [nl]
theorem nl_plain (l : List Nat) : AV.plains (nl l) = true := plains_all fun x hx => by
  simp only [nl, List.mem_map] at hx
  obtain ⟨y, _, rfl⟩ := hx; rfl
theorem nl_get {l : List Nat} {j : Nat} (h : j < l.length) : (nl l)[j]? = some (.i .i64 (l.getD j 0 : Nat)) := by simp [nl, h]
def ltT (l : List T) (i k : Nat) : Bool := decide ((l.getD i T0).len < (l.getD k T0).len ∨ ((l.getD i T0).len = (l.getD k T0).len ∧ (l.getD i T0).num < (l.getD k T0).num))
theorem cmpT_lt (l : List T) (i k : Nat) : decide (cmpT l i k < 0) = ltT l i k := by
  unfold cmpT ltT orI orI orI cmpI
  rw [Bool.eq_iff_iff]
  simp only [decide_eq_true_eq]
  repeat' split
  all_goals omega
def onside (l : List T) (s c : Int) (i : Nat) : Bool := decide ((l.getD i T0).side = s ∧ (l.getD i T0).col = c)
def sfil (l : List T) (s c : Int) (k : Nat) : List Nat := (List.range k).filter (onside l s c)
theorem sfil_succ (l : List T) (s c : Int) (k : Nat) : sfil l s c (k + 1) = if onside l s c k = true then sfil l s c k ++ [k] else sfil l s c k := by
  unfold sfil
  rw [List.range_succ, List.filter_append]
  cases h : onside l s c k <;> simp [h]
theorem sfil_len (l : List T) (s c : Int) (k : Nat) : (sfil l s c k).length ≤ k := by
  unfold sfil
  exact Nat.le_trans (List.length_filter_le _ _) (by simp)
/-- the temples of a side and a colour, the shortest first -/
def sideL (l : List T) (s c : Int) : List Nat := (sfil l s c l.length).mergeSort fun i k => !ltT l k i
abbrev Ix (n : Nat) := { i : Nat // i < n }
theorem swoT (l : List T) : SWO (ltOf fun (x y : Ix l.length) => cmpT l x.1 y.1) where
  irrefl x := by simp only [ltOf, cmpT_lt, ltT]; simp
  trans x y z h1 h2 := by
    simp only [ltOf, cmpT_lt, ltT, decide_eq_true_eq] at *; omega
  ntrans x y z h1 h2 := by
    simp only [ltOf, cmpT_lt, ltT, decide_eq_false_iff_not] at *; omega
theorem encIx (n : Nat) : Enc1 (α := Ix n) (fun x => .i .i64 (x.1 : Int)) (fun x => .int .i64 (x.1 : Int)) := ⟨fun ι x v => by simp only [VRel], fun _ => rfl, fun _ => rfl⟩
/-- slices.SortFunc at indexes of a valid list -/
theorem sortT {l : List T} (hv : VL l) {h : AH} {t a : Nat} {ns : List Nat} (hm : h.m t = some (.cells true (nl ns))) (hn : ∀ i ∈ ns, i < l.length) (hlen : ns.length < 4611686018427387904) :
    ACalls Try.prog 77 [.sl t 0 ns.length a, .fn 81 [] [.pv [vT l] 0]] h fun r h' => r = .tu [] ∧ h' = h.set t (.cells true (nl (ns.mergeSort fun i k => !ltT l k i))) := by
  by_cases h0 : l.length = 0
  · -- no indexes at all
    have : ns = [] := by
      cases ns with
      | nil => rfl
      | cons x r => have := hn x (by simp); omega
    subst this
    refine ACalls.mono (sort_none sortL 81 [.pv [vT l] 0] h t 0 a) fun r h' ⟨e1, e2⟩ => ⟨e1, ?_⟩
    rw [e2, List.mergeSort_nil, set_self hm]
  · haveI : Inhabited (Ix l.length) := ⟨⟨0, by omega⟩⟩
    let d : List (Ix l.length) := ns.attachWith (· < l.length) hn
    have hd : d.map Subtype.val = ns := List.attachWith_map_subtype_val _
    have hd2 : d.map (fun x => AV.i .i64 (x.1 : Int)) = nl ns := by
      rw [← hd]; simp only [nl, List.map_map]; rfl
    have := sort_one sortL (encIx l.length) (swoT l) (fun x y h1 h2 => ?_) (g := 81) (caps := [.pv [vT l] 0]) (by simp only [AV.plains, AV.plain, il_plain, bl_plain, Bool.and_true, Bool.true_and, Bool.and_self, flT_plain]) (fun x y => pc81 l x.1 y.1 x.2 y.2) (h := h) (t := t) (a := a) (d := d) (by rw [hd2]; exact hm) (by simpa [d] using hlen)
    · have hl : d.length = ns.length := by rw [← hd]; simp
      rw [hl] at this
      refine ACalls.mono this fun r h' ⟨e1, e2⟩ => ⟨e1, ?_⟩
      rw [e2]
      have e3 : (d.mergeSort fun x y => !(ltOf (fun (x y : Ix l.length) => cmpT l x.1 y.1)) y x).map Subtype.val = ns.mergeSort fun i k => !ltT l k i := by
        rw [← hd]
        exact List.map_mergeSort fun a _ b _ => by simp only [ltOf, cmpT_lt]
      rw [← e3]; simp only [nl, List.map_map]; rfl
    · simp only [ltOf, cmpT_lt, ltT, decide_eq_false_iff_not] at h1 h2
      by_cases e : x.1 = y.1
      · exact Subtype.ext e
      · exfalso
        rcases Nat.lt_or_gt_of_ne e with q | q
        · have := hv.2.2 x.1 y.1 q y.2; omega
        · have := hv.2.2 y.1 x.1 q x.2; omega
theorem pc74 (l : List T) (hv : VL l) (s c : Int) : PC Try.prog 74 [vT l, .i .i64 s, .i .i64 c] (.vs (sideL l s c).length (nl (sideL l s c))) := by
  refine pc_fn fn74 (by simp only [AV.plains, AV.plain, il_plain, bl_plain, Bool.and_true, Bool.true_and, Bool.and_self, flT_plain, nl_plain]) (by simp only [AV.plains, AV.plain, il_plain, bl_plain, Bool.and_true, Bool.true_and, Bool.and_self, flT_plain, nl_plain]) (Nat.le_of_ble_eq_true rfl) ?_
  rw [initSt3]
  have hl := hv.len
  have q78 := pc78 l
  repeat' first
    | with_reducible refine k_seq ?_
    | with_reducible refine k_skip ?_
    | with_reducible refine k_blkS ?_
    | with_reducible refine k_blkR ?_
    | with_reducible refine k_blkC ?_
    | with_reducible refine k_blkH ?_
    | with_reducible refine k_blkB ?_
    | with_reducible refine k_blkK ?_
    | with_reducible refine k_blkE ?_
    | with_reducible refine k_reg ?_
    | with_reducible refine r_done ?_
    | with_reducible refine s_go (by simp (disch := omega) only [c74r0, c74r1, c74r2, c74r3, c74r4, c74r5, c74r6, c74r7, c74r9, c74r10, EV0, EV1, EV2, EV3, EV4, EV5, EV6, EV7, EV8, VALS, plug, ite_same, decide_true, decide_false, eq_self, ↓reduceIte, reduceCtorEq, Nat.reduceAdd, Nat.reduceEqDiff, Nat.reduceLT, Nat.reduceLeDiff, Nat.reduceMul, Nat.reduceSub, Nat.reduceDiv, Int.reduceToNat, Int.reduceAdd, Int.reduceSub, Int.reduceMul, Int.reduceNeg, Int.reduceEq, Int.reduceLT, Int.reduceLE]; with_reducible rfl) ?_
    | ((with_reducible refine chk_r ?_); refine r_callF (by simp only [CA, Nat.reduceEqDiff, ↓reduceIte]; rfl) (by exact rfl) (by simp only [CA, Nat.reduceEqDiff, ↓reduceIte]; rfl) rfl ?_)
    | (with_reducible refine k_condP (by simp only [GA, Nat.reduceEqDiff, ↓reduceIte]; rfl) (by first | (simp only [BO]; rfl) | rfl) (fun ht => ?_) (fun ht => ?_) <;> try (first | exact False.elim ht | exact absurd rfl ht | exact absurd trivial ht | exact Bool.noConfusion ht))
    | (with_reducible refine k_ret ?_; repeat with_reducible (first | refine ret_thru ?_ | refine ret_blk ?_ | refine fin ?_))
    | (with_reducible refine k_exit ?_; repeat with_reducible (first | refine thru ?_ | refine out_blk ?_ | refine pass (by decide) ?_))
    | (refine post1 ?_; simp only [GA, Nat.reduceEqDiff, ↓reduceIte])
    | (refine post2 ?_; simp only [GA, Nat.reduceEqDiff, ↓reduceIte])
    | (refine post3 ?_; simp only [GA, Nat.reduceEqDiff, ↓reduceIte])
    | (refine postc (by simp only [GA, Nat.reduceEqDiff, ↓reduceIte]; rfl) (by simp (disch := omega) only [c74r0, c74r1, c74r2, c74r3, c74r4, c74r5, c74r6, c74r7, c74r9, c74r10, EV0, EV1, EV2, EV3, EV4, EV5, EV6, EV7, EV8, VALS, plug, ite_same, decide_true, decide_false, eq_self, ↓reduceIte, reduceCtorEq, Nat.reduceAdd, Nat.reduceEqDiff, Nat.reduceLT, Nat.reduceLeDiff, Nat.reduceMul, Nat.reduceSub, Nat.reduceDiv, Int.reduceToNat, Int.reduceAdd, Int.reduceSub, Int.reduceMul, Int.reduceNeg, Int.reduceEq, Int.reduceLT, Int.reduceLE]; rfl) ?_)
    | refine post0 ?_
  refine w_virt 1 7 rfl ?_
  refine k_blk (k_loopS (X := Nat) [0, 1, 2, 7, 10, 11, 12] l.length (fun k x => [(0, vT l), (1, .i .i64 s), (2, .i .i64 c), (7, .sl x 0 (sfil l s c k).length 1), (10, vT l), (11, .i .i64 l.length), (12, .i .i64 (k : Int))])
    (fun k x h => x ≠ 0 ∧ h.m x = some (.cells true (nl (sfil l s c k)))) _ (by simp only [Am.keep, List.map_cons, List.map_nil, GA, Nat.reduceEqDiff, ↓reduceIte]; try rfl) ⟨?_, by simp (disch := omega) only [c74r0, c74r1, c74r2, c74r3, c74r4, c74r5, c74r6, c74r7, c74r9, c74r10, EV0, EV1, EV2, EV3, EV4, EV5, EV6, EV7, EV8, VALS, plug, ite_same, decide_true, decide_false, eq_self, ↓reduceIte, reduceCtorEq, Nat.reduceAdd, Nat.reduceEqDiff, Nat.reduceLT, Nat.reduceLeDiff, Nat.reduceMul, Nat.reduceSub, Nat.reduceDiv, Int.reduceToNat, Int.reduceAdd, Int.reduceSub, Int.reduceMul, Int.reduceNeg, Int.reduceEq, Int.reduceLT, Int.reduceLE] <;> rfl⟩ ?_)
  · decide
  rintro k x h hk ⟨hx, hm⟩ ok pos
  have hx' := ok.m hm
  have hfl := sfil_len l s c k
  by_cases hlt : k < l.length
  · have rT := rdT hlt
    have hlt' : (k : Int) < l.length := by omega
    simp only [eT] at rT
    have e1 : onside l s c k = (decide ((l.getD k T0).side = s) && decide ((l.getD k T0).col = c)) := by simp [onside]
    have fs := sfil_succ l s c k
    repeat' first
      | with_reducible refine k_seq ?_
      | with_reducible refine k_skip ?_
      | with_reducible refine k_blkS ?_
      | with_reducible refine k_blkR ?_
      | with_reducible refine k_blkC ?_
      | with_reducible refine k_blkH ?_
      | with_reducible refine k_blkB ?_
      | with_reducible refine k_blkK ?_
      | with_reducible refine k_blkE ?_
      | with_reducible refine k_reg ?_
      | with_reducible refine r_done ?_
      | with_reducible refine s_go (by simp (disch := omega) only [rT, hlt', hm, hx, nl_len, nl_snoc, c74r0, c74r1, c74r2, c74r3, c74r4, c74r5, c74r6, c74r7, c74r9, c74r10, EV0, EV1, EV2, EV3, EV4, EV5, EV6, EV7, EV8, VALS, plug, ite_same, decide_true, decide_false, eq_self, ↓reduceIte, reduceCtorEq, Nat.reduceAdd, Nat.reduceEqDiff, Nat.reduceLT, Nat.reduceLeDiff, Nat.reduceMul, Nat.reduceSub, Nat.reduceDiv, Int.reduceToNat, Int.reduceAdd, Int.reduceSub, Int.reduceMul, Int.reduceNeg, Int.reduceEq, Int.reduceLT, Int.reduceLE]; with_reducible rfl) ?_
      | ((with_reducible refine chk_r ?_); refine r_callF (by simp only [CA, Nat.reduceEqDiff, ↓reduceIte]; rfl) (by exact rfl) (by simp only [CA, Nat.reduceEqDiff, ↓reduceIte]; rfl) rfl ?_)
      | (with_reducible refine k_condP (by simp only [GA, Nat.reduceEqDiff, ↓reduceIte]; rfl) (by first | (simp only [BO]; rfl) | rfl) (fun ht => ?_) (fun ht => ?_) <;> try (first | exact False.elim ht | exact absurd rfl ht | exact absurd trivial ht | exact Bool.noConfusion ht))
      | (with_reducible refine k_ret ?_; repeat with_reducible (first | refine ret_thru ?_ | refine ret_blk ?_ | refine fin ?_))
      | (with_reducible refine k_exit ?_; repeat with_reducible (first | refine thru ?_ | refine out_blk ?_ | refine pass (by decide) ?_))
      | (refine post1 ?_; simp only [GA, Nat.reduceEqDiff, ↓reduceIte])
      | (refine post2 ?_; simp only [GA, Nat.reduceEqDiff, ↓reduceIte])
      | (refine post3 ?_; simp only [GA, Nat.reduceEqDiff, ↓reduceIte])
      | (refine postc (by simp only [GA, Nat.reduceEqDiff, ↓reduceIte]; rfl) (by simp (disch := omega) only [rT, hlt', hm, hx, nl_len, nl_snoc, c74r0, c74r1, c74r2, c74r3, c74r4, c74r5, c74r6, c74r7, c74r9, c74r10, EV0, EV1, EV2, EV3, EV4, EV5, EV6, EV7, EV8, VALS, plug, ite_same, decide_true, decide_false, eq_self, ↓reduceIte, reduceCtorEq, Nat.reduceAdd, Nat.reduceEqDiff, Nat.reduceLT, Nat.reduceLeDiff, Nat.reduceMul, Nat.reduceSub, Nat.reduceDiv, Int.reduceToNat, Int.reduceAdd, Int.reduceSub, Int.reduceMul, Int.reduceNeg, Int.reduceEq, Int.reduceLT, Int.reduceLE]; rfl) ?_)
      | refine post0 ?_
    · rw [e1, if_pos (by first | assumption | (simp only [Bool.and_eq_true, Bool.or_eq_true, decide_eq_true_eq]; assumption))] at fs
      rw [fs]
      refine ⟨hlt, ?tk, ?g1, ?g2, ?g3⟩
      case g1 =>
        simp only [Am.keep, List.map_cons, List.map_nil, GA, Nat.reduceEqDiff, ↓reduceIte, List.length_append, List.length_cons, List.length_nil, Nat.zero_add]
        rfl
      case g2 => omega
      case g3 => simp (disch := omega) only [c74r0, c74r1, c74r2, c74r3, c74r4, c74r5, c74r6, c74r7, c74r9, c74r10, EV0, EV1, EV2, EV3, EV4, EV5, EV6, EV7, EV8, VALS, plug, ite_same, decide_true, decide_false, eq_self, ↓reduceIte, reduceCtorEq, Nat.reduceAdd, Nat.reduceEqDiff, Nat.reduceLT, Nat.reduceLeDiff, Nat.reduceMul, Nat.reduceSub, Nat.reduceDiv, Int.reduceToNat, Int.reduceAdd, Int.reduceSub, Int.reduceMul, Int.reduceNeg, Int.reduceEq, Int.reduceLT, Int.reduceLE] <;> rfl
    · rw [e1, if_neg (by first | assumption | (simp only [Bool.and_eq_true, Bool.or_eq_true, decide_eq_true_eq]; assumption))] at fs
      rw [fs]
      exact ⟨hlt, x, (by simp only [Am.keep, List.map_cons, List.map_nil, GA, Nat.reduceEqDiff, ↓reduceIte]; try rfl), hx, by simp (disch := omega) only [hm, c74r0, c74r1, c74r2, c74r3, c74r4, c74r5, c74r6, c74r7, c74r9, c74r10, EV0, EV1, EV2, EV3, EV4, EV5, EV6, EV7, EV8, VALS, plug, ite_same, decide_true, decide_false, eq_self, ↓reduceIte, reduceCtorEq, Nat.reduceAdd, Nat.reduceEqDiff, Nat.reduceLT, Nat.reduceLeDiff, Nat.reduceMul, Nat.reduceSub, Nat.reduceDiv, Int.reduceToNat, Int.reduceAdd, Int.reduceSub, Int.reduceMul, Int.reduceNeg, Int.reduceEq, Int.reduceLT, Int.reduceLE]⟩
  · obtain rfl : k = l.length := by omega
    have hlt' : ¬ (l.length : Int) < l.length := by omega
    have q77 := fun h hm => sortT hv (h := h) (t := x) (a := 1) (ns := sfil l s c l.length) hm (fun i hi => by simp only [sfil, List.mem_filter, List.mem_range] at hi; exact hi.1) (by omega)
    repeat' first
      | with_reducible refine k_seq ?_
      | with_reducible refine k_skip ?_
      | with_reducible refine k_blkS ?_
      | with_reducible refine k_blkR ?_
      | with_reducible refine k_blkC ?_
      | with_reducible refine k_blkH ?_
      | with_reducible refine k_blkB ?_
      | with_reducible refine k_blkK ?_
      | with_reducible refine k_blkE ?_
      | with_reducible refine k_reg ?_
      | with_reducible refine r_done ?_
      | with_reducible refine s_go (by simp (disch := omega) only [hlt', c74r0, c74r1, c74r2, c74r3, c74r4, c74r5, c74r6, c74r7, c74r9, c74r10, EV0, EV1, EV2, EV3, EV4, EV5, EV6, EV7, EV8, VALS, plug, ite_same, decide_true, decide_false, eq_self, ↓reduceIte, reduceCtorEq, Nat.reduceAdd, Nat.reduceEqDiff, Nat.reduceLT, Nat.reduceLeDiff, Nat.reduceMul, Nat.reduceSub, Nat.reduceDiv, Int.reduceToNat, Int.reduceAdd, Int.reduceSub, Int.reduceMul, Int.reduceNeg, Int.reduceEq, Int.reduceLT, Int.reduceLE]; with_reducible rfl) ?_
      | ((with_reducible refine chk_r ?_); refine r_callF (by simp only [CA, Nat.reduceEqDiff, ↓reduceIte]; rfl) (by exact rfl) (by simp only [CA, Nat.reduceEqDiff, ↓reduceIte]; rfl) rfl ?_)
      | ((with_reducible refine chk_r ?_); refine r_callP (by simp only [CA, Nat.reduceEqDiff, ↓reduceIte]; rfl) (by simp only [CA, Nat.reduceEqDiff, ↓reduceIte]; rfl) (by first | exact q78 _) rfl ?_)
      | ((with_reducible refine chk_r ?_); refine r_callX (by simp only [CA, Nat.reduceEqDiff, ↓reduceIte]; rfl) (by simp only [CA, Nat.reduceEqDiff, ↓reduceIte]; rfl) (by first | exact q77 _ (by simp (disch := omega) only [hm, c74r0, c74r1, c74r2, c74r3, c74r4, c74r5, c74r6, c74r7, c74r9, c74r10, EV0, EV1, EV2, EV3, EV4, EV5, EV6, EV7, EV8, VALS, plug, ite_same, decide_true, decide_false, eq_self, ↓reduceIte, reduceCtorEq, Nat.reduceAdd, Nat.reduceEqDiff, Nat.reduceLT, Nat.reduceLeDiff, Nat.reduceMul, Nat.reduceSub, Nat.reduceDiv, Int.reduceToNat, Int.reduceAdd, Int.reduceSub, Int.reduceMul, Int.reduceNeg, Int.reduceEq, Int.reduceLT, Int.reduceLE] <;> rfl)) rfl ?_)
      | (with_reducible refine k_condP (by simp only [GA, Nat.reduceEqDiff, ↓reduceIte]; rfl) (by first | (simp only [BO]; rfl) | rfl) (fun ht => ?_) (fun ht => ?_) <;> try (first | exact False.elim ht | exact absurd rfl ht | exact absurd trivial ht | exact Bool.noConfusion ht))
      | (with_reducible refine k_ret ?_; repeat with_reducible (first | refine ret_thru ?_ | refine ret_blk ?_ | refine fin ?_))
      | (with_reducible refine k_exit ?_; repeat with_reducible (first | refine thru ?_ | refine out_blk ?_ | refine pass (by decide) ?_))
      | (refine post1 ?_; simp only [GA, Nat.reduceEqDiff, ↓reduceIte])
      | (refine post2 ?_; simp only [GA, Nat.reduceEqDiff, ↓reduceIte])
      | (refine post3 ?_; simp only [GA, Nat.reduceEqDiff, ↓reduceIte])
      | (refine postc (by simp only [GA, Nat.reduceEqDiff, ↓reduceIte]; rfl) (by simp (disch := omega) only [hlt', c74r0, c74r1, c74r2, c74r3, c74r4, c74r5, c74r6, c74r7, c74r9, c74r10, EV0, EV1, EV2, EV3, EV4, EV5, EV6, EV7, EV8, VALS, plug, ite_same, decide_true, decide_false, eq_self, ↓reduceIte, reduceCtorEq, Nat.reduceAdd, Nat.reduceEqDiff, Nat.reduceLT, Nat.reduceLeDiff, Nat.reduceMul, Nat.reduceSub, Nat.reduceDiv, Int.reduceToNat, Int.reduceAdd, Int.reduceSub, Int.reduceMul, Int.reduceNeg, Int.reduceEq, Int.reduceLT, Int.reduceLE]; rfl) ?_)
      | refine post0 ?_
    rintro r h' ⟨rfl, rfl⟩
    repeat' first
      | with_reducible refine k_seq ?_
      | with_reducible refine k_skip ?_
      | with_reducible refine k_blkS ?_
      | with_reducible refine k_blkR ?_
      | with_reducible refine k_blkC ?_
      | with_reducible refine k_blkH ?_
      | with_reducible refine k_blkB ?_
      | with_reducible refine k_blkK ?_
      | with_reducible refine k_blkE ?_
      | with_reducible refine k_reg ?_
      | with_reducible refine r_done ?_
      | with_reducible refine s_go (by simp (disch := omega) only [c74r0, c74r1, c74r2, c74r3, c74r4, c74r5, c74r6, c74r7, c74r9, c74r10, EV0, EV1, EV2, EV3, EV4, EV5, EV6, EV7, EV8, VALS, plug, ite_same, decide_true, decide_false, eq_self, ↓reduceIte, reduceCtorEq, Nat.reduceAdd, Nat.reduceEqDiff, Nat.reduceLT, Nat.reduceLeDiff, Nat.reduceMul, Nat.reduceSub, Nat.reduceDiv, Int.reduceToNat, Int.reduceAdd, Int.reduceSub, Int.reduceMul, Int.reduceNeg, Int.reduceEq, Int.reduceLT, Int.reduceLE]; with_reducible rfl) ?_
      | ((with_reducible refine chk_r ?_); refine r_callF (by simp only [CA, Nat.reduceEqDiff, ↓reduceIte]; rfl) (by exact rfl) (by simp only [CA, Nat.reduceEqDiff, ↓reduceIte]; rfl) rfl ?_)
      | (with_reducible refine k_condP (by simp only [GA, Nat.reduceEqDiff, ↓reduceIte]; rfl) (by first | (simp only [BO]; rfl) | rfl) (fun ht => ?_) (fun ht => ?_) <;> try (first | exact False.elim ht | exact absurd rfl ht | exact absurd trivial ht | exact Bool.noConfusion ht))
      | (with_reducible refine k_ret ?_; repeat with_reducible (first | refine ret_thru ?_ | refine ret_blk ?_ | refine fin ?_))
      | (with_reducible refine k_exit ?_; repeat with_reducible (first | refine thru ?_ | refine out_blk ?_ | refine pass (by decide) ?_))
      | (refine post1 ?_; simp only [GA, Nat.reduceEqDiff, ↓reduceIte])
      | (refine post2 ?_; simp only [GA, Nat.reduceEqDiff, ↓reduceIte])
      | (refine post3 ?_; simp only [GA, Nat.reduceEqDiff, ↓reduceIte])
      | (refine postc (by simp only [GA, Nat.reduceEqDiff, ↓reduceIte]; rfl) (by simp (disch := omega) only [c74r0, c74r1, c74r2, c74r3, c74r4, c74r5, c74r6, c74r7, c74r9, c74r10, EV0, EV1, EV2, EV3, EV4, EV5, EV6, EV7, EV8, VALS, plug, ite_same, decide_true, decide_false, eq_self, ↓reduceIte, reduceCtorEq, Nat.reduceAdd, Nat.reduceEqDiff, Nat.reduceLT, Nat.reduceLeDiff, Nat.reduceMul, Nat.reduceSub, Nat.reduceDiv, Int.reduceToNat, Int.reduceAdd, Int.reduceSub, Int.reduceMul, Int.reduceNeg, Int.reduceEq, Int.reduceLT, Int.reduceLE]; rfl) ?_)
      | refine post0 ?_
    have hms : (sideL l s c).length = (sfil l s c l.length).length := List.length_mergeSort _
    rw [hms]
    exact ends_sl (k := 1) (by simp (disch := omega) only [c74r0, c74r1, c74r2, c74r3, c74r4, c74r5, c74r6, c74r7, c74r9, c74r10, EV0, EV1, EV2, EV3, EV4, EV5, EV6, EV7, EV8, VALS, plug, ite_same, decide_true, decide_false, eq_self, ↓reduceIte, reduceCtorEq, Nat.reduceAdd, Nat.reduceEqDiff, Nat.reduceLT, Nat.reduceLeDiff, Nat.reduceMul, Nat.reduceSub, Nat.reduceDiv, Int.reduceToNat, Int.reduceAdd, Int.reduceSub, Int.reduceMul, Int.reduceNeg, Int.reduceEq, Int.reduceLT, Int.reduceLE] <;> rfl) (by rw [nl_len, hms]; omega)
end Go.Proofs.Ytbhkbaapfioijaa
set_option linter.unusedVariables false
set_option linter.unusedSimpArgs false
namespace Go.Proofs.Ytbhkbaapfioijaa
open Go Go.Am Go.Proofs Go.Sort
/-! ### Pairs -/
def eP (p : Nat × Nat) : List AV := [.i .i64 (p.1 : Int), .i .i64 (p.2 : Int)]
theorem eP_len (p : Nat × Nat) : (eP p).length = 2 := rfl
theorem eP_plain (p : Nat × Nat) : AV.plains (eP p) = true := rfl
theorem flP_plain (l : List (Nat × Nat)) : AV.plains (fl eP l) = true := fl_plain eP_plain l
theorem flP_len (l : List (Nat × Nat)) : (fl eP l).length = l.length * 2 := fl_len eP_len l
theorem flP_snoc (l : List (Nat × Nat)) (x y : Nat) : fl eP l ++ [.i .i64 (x : Int), .i .i64 (y : Int)] = fl eP (l ++ [(x, y)]) := fl_snoc l (x, y)
theorem rdP {l : List (Nat × Nat)} {j : Nat} (h : j < l.length) : rd (fl eP l) (j * 2) (some 2) = some (.ag (eP (l.getD j (0, 0)))) := fl_rd eP_len (0, 0) h
theorem getP0 {l : List (Nat × Nat)} {j : Nat} (h : j < l.length) : (fl eP l)[j * 2]? = some (.i .i64 ((l.getD j (0, 0)).1 : Nat)) := fl_get (c := 0) eP_len (0, 0) h (by omega)
theorem getP1 {l : List (Nat × Nat)} {j : Nat} (h : j < l.length) : (fl eP l)[j * 2 + 1]? = some (.i .i64 ((l.getD j (0, 0)).2 : Nat)) := fl_get eP_len (0, 0) h (by omega)
abbrev vP (l : List (Nat × Nat)) : AV := .vs l.length (fl eP l)
/-- two sides, the shortest ahead -/
def mt (l : List T) (tol : Int) : List Nat → List Nat → List (Nat × Nat)
  | a :: xs, b :: ys => if apart (l.getD a T0) (l.getD b T0) ≤ tol then (a, b) :: mt l tol xs ys else if (l.getD a T0).len < (l.getD b T0).len then mt l tol xs (b :: ys) else mt l tol (a :: xs) ys
  | _, _ => []
termination_by xs ys => xs.length + ys.length
theorem mt_nil1 (l : List T) (tol : Int) (ys : List Nat) : mt l tol [] ys = [] := by unfold mt; rfl
theorem mt_nil2 (l : List T) (tol : Int) (xs : List Nat) : mt l tol xs [] = [] := by cases xs <;> (unfold mt; rfl)
theorem mt_cons (l : List T) (tol : Int) (a b : Nat) (xs ys : List Nat) : mt l tol (a :: xs) (b :: ys) = if apart (l.getD a T0) (l.getD b T0) ≤ tol then (a, b) :: mt l tol xs ys else if (l.getD a T0).len < (l.getD b T0).len then mt l tol xs (b :: ys) else mt l tol (a :: xs) ys := by
  rw [mt]
theorem mt_len (l : List T) (tol : Int) : ∀ (n : Nat) (xs ys : List Nat), xs.length + ys.length ≤ n → (mt l tol xs ys).length ≤ xs.length
  | n, [], ys, h => by rw [mt_nil1]; simp
  | n, a :: xs, [], h => by rw [mt_nil2]; simp
  | 0, a :: xs, b :: ys, h => by simp at h
  | n + 1, a :: xs, b :: ys, h => by
    rw [mt_cons]
    simp only [List.length_cons] at h ⊢
    split
    · have := mt_len l tol n xs ys (by omega); simp only [List.length_cons]; omega
    · split
      · have := mt_len l tol n xs (b :: ys) (by simp only [List.length_cons]; omega); omega
      · have := mt_len l tol n (a :: xs) ys (by simp only [List.length_cons]; omega); simpa using this
/-- the pairs of the first k colours -/
def mc (l : List T) (tol : Int) (k : Nat) : List (Nat × Nat) := (List.range k).flatMap fun c => mt l tol (sideL l 1 (c + 1 : Nat)) (sideL l 2 (c + 1 : Nat))
def matchL (l : List T) (tol : Int) : List (Nat × Nat) := mc l tol 9
theorem mc_succ (l : List T) (tol : Int) (k : Nat) : mc l tol (k + 1) = mc l tol k ++ mt l tol (sideL l 1 (k + 1 : Nat)) (sideL l 2 (k + 1 : Nat)) := by
  unfold mc; rw [List.range_succ, List.flatMap_append]; simp
theorem sideL_lt {l : List T} {s c : Int} {i : Nat} (h : i ∈ sideL l s c) : i < l.length := by
  unfold sideL at h
  rw [List.mem_mergeSort] at h
  simp only [sfil, List.mem_filter, List.mem_range] at h
  exact h.1
theorem sideL_len (l : List T) (s c : Int) : (sideL l s c).length ≤ l.length := by
  unfold sideL; rw [List.length_mergeSort]; exact sfil_len _ _ _ _
theorem pc50 (l : List T) (hv : VL l) (tol : Int) : PC Try.prog 50 [vT l, .i .i64 tol] (vP (matchL l tol)) := by
  refine pc_fn fn50 (by simp only [AV.plains, AV.plain, il_plain, bl_plain, Bool.and_true, Bool.true_and, Bool.and_self, flT_plain, flP_plain]) (by simp only [AV.plains, AV.plain, il_plain, bl_plain, Bool.and_true, Bool.true_and, Bool.and_self, flT_plain, flP_plain]) (Nat.le_of_ble_eq_true rfl) ?_
  rw [initSt2]
  have hl := hv.len
  have q74 := pc74 l hv
  repeat' first
    | with_reducible refine k_seq ?_
    | with_reducible refine k_skip ?_
    | with_reducible refine k_blkS ?_
    | with_reducible refine k_blkR ?_
    | with_reducible refine k_blkC ?_
    | with_reducible refine k_blkH ?_
    | with_reducible refine k_blkB ?_
    | with_reducible refine k_blkK ?_
    | with_reducible refine k_blkE ?_
    | with_reducible refine k_reg ?_
    | with_reducible refine k_head (by with_unfolding_all rfl) ?_
    | with_reducible refine k_headS ?_
    | (with_reducible refine SepK.mk ?_ ?_; (refine sepQ_P ?_; simp [sepQ, sepG, AOp.late, AOp.free, AOp.xs, AOp.isAl, tokNe, AV.tok, stS_get, strip, AX.val, c50r0, c50r1, c50r2, c50r3, c50r4, c50r5, c50r6, c50r7, c50r8, c50r9, c50r10, c50r11, c50r12, c50r14, c50r16, GA]; try omega))
    | with_reducible refine r_done ?_
    | with_reducible refine hr_done ?_
    | with_reducible refine s_go (by simp (disch := omega) only [c50r0, c50r1, c50r2, c50r3, c50r4, c50r5, c50r6, c50r7, c50r8, c50r9, c50r10, c50r11, c50r12, c50r14, c50r16, EV0, EV1, EV2, EV3, EV4, EV5, EV6, EV7, EV8, VALS, plug, ite_same, decide_true, decide_false, eq_self, ↓reduceIte, reduceCtorEq, Nat.reduceAdd, Nat.reduceEqDiff, Nat.reduceLT, Nat.reduceLeDiff, Nat.reduceMul, Nat.reduceSub, Nat.reduceDiv, Int.reduceToNat, Int.reduceAdd, Int.reduceSub, Int.reduceMul, Int.reduceNeg, Int.reduceEq, Int.reduceLT, Int.reduceLE]; with_reducible rfl) ?_
    | with_reducible refine h_go (by with_unfolding_all rfl) (by simp (disch := omega) only [c50r0, c50r1, c50r2, c50r3, c50r4, c50r5, c50r6, c50r7, c50r8, c50r9, c50r10, c50r11, c50r12, c50r14, c50r16, EV0, EV1, EV2, EV3, EV4, EV5, EV6, EV7, EV8, VALS, plug, ite_same, decide_true, decide_false, eq_self, ↓reduceIte, reduceCtorEq, Nat.reduceAdd, Nat.reduceEqDiff, Nat.reduceLT, Nat.reduceLeDiff, Nat.reduceMul, Nat.reduceSub, Nat.reduceDiv, Int.reduceToNat, Int.reduceAdd, Int.reduceSub, Int.reduceMul, Int.reduceNeg, Int.reduceEq, Int.reduceLT, Int.reduceLE]; with_reducible rfl) ?_
    | ((with_reducible refine chk_r ?_); refine r_callF (by simp only [CA, Nat.reduceEqDiff, ↓reduceIte]; rfl) (by exact rfl) (by simp only [CA, Nat.reduceEqDiff, ↓reduceIte]; rfl) rfl ?_)
    | ((with_reducible refine chk_h ?_); refine hr_callF (by simp only [CA, Nat.reduceEqDiff, ↓reduceIte]; rfl) (by exact rfl) (by simp only [CA, Nat.reduceEqDiff, ↓reduceIte]; rfl) rfl ?_)
    | ((with_reducible refine chk_h ?_); refine hr_app (by simp (disch := omega) only [c50r0, c50r1, c50r2, c50r3, c50r4, c50r5, c50r6, c50r7, c50r8, c50r9, c50r10, c50r11, c50r12, c50r14, c50r16, EV0, EV1, EV2, EV3, EV4, EV5, EV6, EV7, EV8, VALS, plug, ite_same, decide_true, decide_false, eq_self, ↓reduceIte, reduceCtorEq, Nat.reduceAdd, Nat.reduceEqDiff, Nat.reduceLT, Nat.reduceLeDiff, Nat.reduceMul, Nat.reduceSub, Nat.reduceDiv, Int.reduceToNat, Int.reduceAdd, Int.reduceSub, Int.reduceMul, Int.reduceNeg, Int.reduceEq, Int.reduceLT, Int.reduceLE]; with_reducible rfl) rfl ?_)
    | (with_reducible refine k_condP (by simp only [GA, Nat.reduceEqDiff, ↓reduceIte]; rfl) (by first | (simp only [BO]; rfl) | rfl) (fun ht => ?_) (fun ht => ?_) <;> try (first | exact False.elim ht | exact absurd rfl ht | exact absurd trivial ht | exact Bool.noConfusion ht))
    | (with_reducible refine k_ret ?_; repeat with_reducible (first | refine ret_thru ?_ | refine ret_blk ?_ | refine fin ?_))
    | (with_reducible refine k_exit ?_; repeat with_reducible (first | refine thru ?_ | refine out_blk ?_ | refine pass (by decide) ?_))
    | (refine post1 ?_; simp only [GA, Nat.reduceEqDiff, ↓reduceIte])
    | (refine post2 ?_; simp only [GA, Nat.reduceEqDiff, ↓reduceIte])
    | (refine post3 ?_; simp only [GA, Nat.reduceEqDiff, ↓reduceIte])
    | (refine postc (by simp only [GA, Nat.reduceEqDiff, ↓reduceIte]; rfl) (by simp (disch := omega) only [c50r0, c50r1, c50r2, c50r3, c50r4, c50r5, c50r6, c50r7, c50r8, c50r9, c50r10, c50r11, c50r12, c50r14, c50r16, EV0, EV1, EV2, EV3, EV4, EV5, EV6, EV7, EV8, VALS, plug, ite_same, decide_true, decide_false, eq_self, ↓reduceIte, reduceCtorEq, Nat.reduceAdd, Nat.reduceEqDiff, Nat.reduceLT, Nat.reduceLeDiff, Nat.reduceMul, Nat.reduceSub, Nat.reduceDiv, Int.reduceToNat, Int.reduceAdd, Int.reduceSub, Int.reduceMul, Int.reduceNeg, Int.reduceEq, Int.reduceLT, Int.reduceLE]; rfl) ?_)
    | refine post0 ?_
  refine w_virt 2 5 rfl ?_
  refine k_blk (k_loopS (X := Nat) [0, 1, 5, 6] 9 (fun k x => [(0, vT l), (1, .i .i64 tol), (5, .sl x 0 (mc l tol k).length 2), (6, .i .i64 ((k + 1 : Nat) : Int))])
    (fun k x h => x ≠ 0 ∧ (mc l tol k).length ≤ k * 60 ∧ h.m x = some (.cells true (fl eP (mc l tol k)))) _ (by simp only [Am.keep, List.map_cons, List.map_nil, GA, Nat.reduceEqDiff, ↓reduceIte]; try rfl) ⟨?_, by simp [mc], by simp (disch := omega) only [c50r0, c50r1, c50r2, c50r3, c50r4, c50r5, c50r6, c50r7, c50r8, c50r9, c50r10, c50r11, c50r12, c50r14, c50r16, EV0, EV1, EV2, EV3, EV4, EV5, EV6, EV7, EV8, VALS, plug, ite_same, decide_true, decide_false, eq_self, ↓reduceIte, reduceCtorEq, Nat.reduceAdd, Nat.reduceEqDiff, Nat.reduceLT, Nat.reduceLeDiff, Nat.reduceMul, Nat.reduceSub, Nat.reduceDiv, Int.reduceToNat, Int.reduceAdd, Int.reduceSub, Int.reduceMul, Int.reduceNeg, Int.reduceEq, Int.reduceLT, Int.reduceLE] <;> rfl⟩ ?_)
  · decide
  rintro k x h hk ⟨hx, hlen, hm⟩ ok pos
  have hx' := ok.m hm
  by_cases hlt : k < 9
  · have c1 : ((k + 1 : Nat) : Int) ≤ 9 := by omega
    repeat' first
      | with_reducible refine k_seq ?_
      | with_reducible refine k_skip ?_
      | with_reducible refine k_blkS ?_
      | with_reducible refine k_blkR ?_
      | with_reducible refine k_blkC ?_
      | with_reducible refine k_blkH ?_
      | with_reducible refine k_blkB ?_
      | with_reducible refine k_blkK ?_
      | with_reducible refine k_blkE ?_
      | with_reducible refine k_reg ?_
      | with_reducible refine k_head (by with_unfolding_all rfl) ?_
      | with_reducible refine k_headS ?_
      | (with_reducible refine SepK.mk ?_ ?_; (refine sepQ_P ?_; simp [sepQ, sepG, AOp.late, AOp.free, AOp.xs, AOp.isAl, tokNe, AV.tok, stS_get, strip, AX.val, c50r0, c50r1, c50r2, c50r3, c50r4, c50r5, c50r6, c50r7, c50r8, c50r9, c50r10, c50r11, c50r12, c50r14, c50r16, GA]; try omega))
      | with_reducible refine r_done ?_
      | with_reducible refine hr_done ?_
      | with_reducible refine s_go (by simp (disch := omega) only [c1, c50r0, c50r1, c50r2, c50r3, c50r4, c50r5, c50r6, c50r7, c50r8, c50r9, c50r10, c50r11, c50r12, c50r14, c50r16, EV0, EV1, EV2, EV3, EV4, EV5, EV6, EV7, EV8, VALS, plug, ite_same, decide_true, decide_false, eq_self, ↓reduceIte, reduceCtorEq, Nat.reduceAdd, Nat.reduceEqDiff, Nat.reduceLT, Nat.reduceLeDiff, Nat.reduceMul, Nat.reduceSub, Nat.reduceDiv, Int.reduceToNat, Int.reduceAdd, Int.reduceSub, Int.reduceMul, Int.reduceNeg, Int.reduceEq, Int.reduceLT, Int.reduceLE]; with_reducible rfl) ?_
      | with_reducible refine h_go (by with_unfolding_all rfl) (by simp (disch := omega) only [c1, c50r0, c50r1, c50r2, c50r3, c50r4, c50r5, c50r6, c50r7, c50r8, c50r9, c50r10, c50r11, c50r12, c50r14, c50r16, EV0, EV1, EV2, EV3, EV4, EV5, EV6, EV7, EV8, VALS, plug, ite_same, decide_true, decide_false, eq_self, ↓reduceIte, reduceCtorEq, Nat.reduceAdd, Nat.reduceEqDiff, Nat.reduceLT, Nat.reduceLeDiff, Nat.reduceMul, Nat.reduceSub, Nat.reduceDiv, Int.reduceToNat, Int.reduceAdd, Int.reduceSub, Int.reduceMul, Int.reduceNeg, Int.reduceEq, Int.reduceLT, Int.reduceLE]; with_reducible rfl) ?_
      | ((with_reducible refine chk_r ?_); refine r_callF (by simp only [CA, Nat.reduceEqDiff, ↓reduceIte]; rfl) (by exact rfl) (by simp only [CA, Nat.reduceEqDiff, ↓reduceIte]; rfl) rfl ?_)
      | ((with_reducible refine chk_h ?_); refine hr_callF (by simp only [CA, Nat.reduceEqDiff, ↓reduceIte]; rfl) (by exact rfl) (by simp only [CA, Nat.reduceEqDiff, ↓reduceIte]; rfl) rfl ?_)
      | ((with_reducible refine chk_r ?_); refine r_callP (by simp only [CA, Nat.reduceEqDiff, ↓reduceIte]; rfl) (by simp only [CA, Nat.reduceEqDiff, ↓reduceIte]; rfl) (by first | exact q74 _ _ _) rfl ?_)
      | ((with_reducible refine chk_h ?_); refine hr_callP (by simp only [CA, Nat.reduceEqDiff, ↓reduceIte]; rfl) (by simp only [CA, Nat.reduceEqDiff, ↓reduceIte]; rfl) (by first | exact q74 _ _ _) rfl ?_)
      | ((with_reducible refine chk_h ?_); refine hr_callP1 (by simp only [CA, Nat.reduceEqDiff, ↓reduceIte]; rfl) (by simp only [CA, Nat.reduceEqDiff, ↓reduceIte]; rfl) (by simp (disch := omega) only [CA, Nat.reduceEqDiff, ↓reduceIte, firstTok_nil, firstTok_sl, firstTok_sl0, firstTok_i, firstTok_b, firstTok_ag, firstTok_p, firstTok_s]; rfl) (by first | exact q74 _ _ _) rfl ?_)
      | ((with_reducible refine chk_h ?_); refine hr_app (by simp (disch := omega) only [c1, c50r0, c50r1, c50r2, c50r3, c50r4, c50r5, c50r6, c50r7, c50r8, c50r9, c50r10, c50r11, c50r12, c50r14, c50r16, EV0, EV1, EV2, EV3, EV4, EV5, EV6, EV7, EV8, VALS, plug, ite_same, decide_true, decide_false, eq_self, ↓reduceIte, reduceCtorEq, Nat.reduceAdd, Nat.reduceEqDiff, Nat.reduceLT, Nat.reduceLeDiff, Nat.reduceMul, Nat.reduceSub, Nat.reduceDiv, Int.reduceToNat, Int.reduceAdd, Int.reduceSub, Int.reduceMul, Int.reduceNeg, Int.reduceEq, Int.reduceLT, Int.reduceLE]; with_reducible rfl) rfl ?_)
      | (with_reducible refine k_condP (by simp only [GA, Nat.reduceEqDiff, ↓reduceIte]; rfl) (by first | (simp only [BO]; rfl) | rfl) (fun ht => ?_) (fun ht => ?_) <;> try (first | exact False.elim ht | exact absurd rfl ht | exact absurd trivial ht | exact Bool.noConfusion ht))
      | (with_reducible refine k_ret ?_; repeat with_reducible (first | refine ret_thru ?_ | refine ret_blk ?_ | refine fin ?_))
      | (with_reducible refine k_exit ?_; repeat with_reducible (first | refine thru ?_ | refine out_blk ?_ | refine pass (by decide) ?_))
      | (refine post1 ?_; simp only [GA, Nat.reduceEqDiff, ↓reduceIte])
      | (refine post2 ?_; simp only [GA, Nat.reduceEqDiff, ↓reduceIte])
      | (refine post3 ?_; simp only [GA, Nat.reduceEqDiff, ↓reduceIte])
      | (refine postc (by simp only [GA, Nat.reduceEqDiff, ↓reduceIte]; rfl) (by simp (disch := omega) only [c1, c50r0, c50r1, c50r2, c50r3, c50r4, c50r5, c50r6, c50r7, c50r8, c50r9, c50r10, c50r11, c50r12, c50r14, c50r16, EV0, EV1, EV2, EV3, EV4, EV5, EV6, EV7, EV8, VALS, plug, ite_same, decide_true, decide_false, eq_self, ↓reduceIte, reduceCtorEq, Nat.reduceAdd, Nat.reduceEqDiff, Nat.reduceLT, Nat.reduceLeDiff, Nat.reduceMul, Nat.reduceSub, Nat.reduceDiv, Int.reduceToNat, Int.reduceAdd, Int.reduceSub, Int.reduceMul, Int.reduceNeg, Int.reduceEq, Int.reduceLT, Int.reduceLE]; rfl) ?_)
      | refine post0 ?_
    have hs1 := sideL_len l 1 (k + 1 : Nat)
    have hs2 := sideL_len l 2 (k + 1 : Nat)
    have fs := mc_succ l tol k
    refine k_blk (k_loopW (X := Nat × List (Nat × Nat) × List Nat × List Nat) [0, 1, 5, 6, 7, 8] (fun x => [(0, vT l), (1, .i .i64 tol), (5, .sl x.1 0 x.2.1.length 2), (6, .i .i64 ((k + 1 : Nat) : Int)), (7, .vs x.2.2.1.length (nl x.2.2.1)), (8, .vs x.2.2.2.length (nl x.2.2.2))])
      (fun x => x.2.2.1.length + x.2.2.2.length)
      (fun x h => x.1 ≠ 0 ∧ x.2.1 ++ mt l tol x.2.2.1 x.2.2.2 = mc l tol (k + 1) ∧ x.2.1.length + x.2.2.1.length ≤ k * 60 + 60 ∧ x.2.2.1.length ≤ 60 ∧ x.2.2.2.length ≤ 60 ∧ (∀ i ∈ x.2.2.1, i < l.length) ∧ (∀ i ∈ x.2.2.2, i < l.length) ∧ h.m x.1 = some (.cells true (fl eP x.2.1))) (x, mc l tol k, sideL l 1 (k + 1 : Nat), sideL l 2 (k + 1 : Nat)) (by simp only [Am.keep, List.map_cons, List.map_nil, GA, Nat.reduceEqDiff, ↓reduceIte]; try rfl) ⟨hx, fs.symm, by simp only []; omega, by simp only []; omega, by simp only []; omega, fun i => sideL_lt, fun i => sideL_lt, by simp (disch := omega) only [hm, c50r0, c50r1, c50r2, c50r3, c50r4, c50r5, c50r6, c50r7, c50r8, c50r9, c50r10, c50r11, c50r12, c50r14, c50r16, EV0, EV1, EV2, EV3, EV4, EV5, EV6, EV7, EV8, VALS, plug, ite_same, decide_true, decide_false, eq_self, ↓reduceIte, reduceCtorEq, Nat.reduceAdd, Nat.reduceEqDiff, Nat.reduceLT, Nat.reduceLeDiff, Nat.reduceMul, Nat.reduceSub, Nat.reduceDiv, Int.reduceToNat, Int.reduceAdd, Int.reduceSub, Int.reduceMul, Int.reduceNeg, Int.reduceEq, Int.reduceLT, Int.reduceLE]⟩ ?_)
    rintro ⟨x, acc, xs, ys⟩ h ⟨hx, e, hlen, hn1, hn2, hi1, hi2, hm⟩ ok pos
    simp only [] at hx e hlen hn1 hn2 hi1 hi2 hm
    have hx' := ok.m hm
    cases xs with
    | nil =>
      rw [mt_nil1, List.append_nil] at e
      simp only [List.length_nil] at hlen
      repeat' first
        | with_reducible refine k_seq ?_
        | with_reducible refine k_skip ?_
        | with_reducible refine k_blkS ?_
        | with_reducible refine k_blkR ?_
        | with_reducible refine k_blkC ?_
        | with_reducible refine k_blkH ?_
        | with_reducible refine k_blkB ?_
        | with_reducible refine k_blkK ?_
        | with_reducible refine k_blkE ?_
        | with_reducible refine k_reg ?_
        | with_reducible refine k_head (by with_unfolding_all rfl) ?_
        | with_reducible refine k_headS ?_
        | (with_reducible refine SepK.mk ?_ ?_; (refine sepQ_P ?_; simp [sepQ, sepG, AOp.late, AOp.free, AOp.xs, AOp.isAl, tokNe, AV.tok, stS_get, strip, AX.val, c50r0, c50r1, c50r2, c50r3, c50r4, c50r5, c50r6, c50r7, c50r8, c50r9, c50r10, c50r11, c50r12, c50r14, c50r16, GA]; try omega))
        | with_reducible refine r_done ?_
        | with_reducible refine hr_done ?_
        | with_reducible refine s_go (by simp (disch := omega) only [List.length_nil, c50r0, c50r1, c50r2, c50r3, c50r4, c50r5, c50r6, c50r7, c50r8, c50r9, c50r10, c50r11, c50r12, c50r14, c50r16, EV0, EV1, EV2, EV3, EV4, EV5, EV6, EV7, EV8, VALS, plug, ite_same, decide_true, decide_false, eq_self, ↓reduceIte, reduceCtorEq, Nat.reduceAdd, Nat.reduceEqDiff, Nat.reduceLT, Nat.reduceLeDiff, Nat.reduceMul, Nat.reduceSub, Nat.reduceDiv, Int.reduceToNat, Int.reduceAdd, Int.reduceSub, Int.reduceMul, Int.reduceNeg, Int.reduceEq, Int.reduceLT, Int.reduceLE]; with_reducible rfl) ?_
        | with_reducible refine h_go (by with_unfolding_all rfl) (by simp (disch := omega) only [List.length_nil, c50r0, c50r1, c50r2, c50r3, c50r4, c50r5, c50r6, c50r7, c50r8, c50r9, c50r10, c50r11, c50r12, c50r14, c50r16, EV0, EV1, EV2, EV3, EV4, EV5, EV6, EV7, EV8, VALS, plug, ite_same, decide_true, decide_false, eq_self, ↓reduceIte, reduceCtorEq, Nat.reduceAdd, Nat.reduceEqDiff, Nat.reduceLT, Nat.reduceLeDiff, Nat.reduceMul, Nat.reduceSub, Nat.reduceDiv, Int.reduceToNat, Int.reduceAdd, Int.reduceSub, Int.reduceMul, Int.reduceNeg, Int.reduceEq, Int.reduceLT, Int.reduceLE]; with_reducible rfl) ?_
        | ((with_reducible refine chk_r ?_); refine r_callF (by simp only [CA, Nat.reduceEqDiff, ↓reduceIte]; rfl) (by exact rfl) (by simp only [CA, Nat.reduceEqDiff, ↓reduceIte]; rfl) rfl ?_)
        | ((with_reducible refine chk_h ?_); refine hr_callF (by simp only [CA, Nat.reduceEqDiff, ↓reduceIte]; rfl) (by exact rfl) (by simp only [CA, Nat.reduceEqDiff, ↓reduceIte]; rfl) rfl ?_)
        | ((with_reducible refine chk_h ?_); refine hr_app (by simp (disch := omega) only [List.length_nil, c50r0, c50r1, c50r2, c50r3, c50r4, c50r5, c50r6, c50r7, c50r8, c50r9, c50r10, c50r11, c50r12, c50r14, c50r16, EV0, EV1, EV2, EV3, EV4, EV5, EV6, EV7, EV8, VALS, plug, ite_same, decide_true, decide_false, eq_self, ↓reduceIte, reduceCtorEq, Nat.reduceAdd, Nat.reduceEqDiff, Nat.reduceLT, Nat.reduceLeDiff, Nat.reduceMul, Nat.reduceSub, Nat.reduceDiv, Int.reduceToNat, Int.reduceAdd, Int.reduceSub, Int.reduceMul, Int.reduceNeg, Int.reduceEq, Int.reduceLT, Int.reduceLE]; with_reducible rfl) rfl ?_)
        | (with_reducible refine k_condP (by simp only [GA, Nat.reduceEqDiff, ↓reduceIte]; rfl) (by first | (simp only [BO]; rfl) | rfl) (fun ht => ?_) (fun ht => ?_) <;> try (first | exact False.elim ht | exact absurd rfl ht | exact absurd trivial ht | exact Bool.noConfusion ht))
        | (with_reducible refine k_ret ?_; repeat with_reducible (first | refine ret_thru ?_ | refine ret_blk ?_ | refine fin ?_))
        | (with_reducible refine k_exit ?_; repeat with_reducible (first | refine thru ?_ | refine out_blk ?_ | refine pass (by decide) ?_))
        | (refine post1 ?_; simp only [GA, Nat.reduceEqDiff, ↓reduceIte])
        | (refine post2 ?_; simp only [GA, Nat.reduceEqDiff, ↓reduceIte])
        | (refine post3 ?_; simp only [GA, Nat.reduceEqDiff, ↓reduceIte])
        | (refine postc (by simp only [GA, Nat.reduceEqDiff, ↓reduceIte]; rfl) (by simp (disch := omega) only [List.length_nil, c50r0, c50r1, c50r2, c50r3, c50r4, c50r5, c50r6, c50r7, c50r8, c50r9, c50r10, c50r11, c50r12, c50r14, c50r16, EV0, EV1, EV2, EV3, EV4, EV5, EV6, EV7, EV8, VALS, plug, ite_same, decide_true, decide_false, eq_self, ↓reduceIte, reduceCtorEq, Nat.reduceAdd, Nat.reduceEqDiff, Nat.reduceLT, Nat.reduceLeDiff, Nat.reduceMul, Nat.reduceSub, Nat.reduceDiv, Int.reduceToNat, Int.reduceAdd, Int.reduceSub, Int.reduceMul, Int.reduceNeg, Int.reduceEq, Int.reduceLT, Int.reduceLE]; rfl) ?_)
        | refine post0 ?_
      all_goals try (exfalso; omega)
      rw [← e]
      exact ⟨hlt, x, (by simp only [Am.keep, List.map_cons, List.map_nil, GA, Nat.reduceEqDiff, ↓reduceIte]; try rfl), hx, by omega, by simp (disch := omega) only [hm, c50r0, c50r1, c50r2, c50r3, c50r4, c50r5, c50r6, c50r7, c50r8, c50r9, c50r10, c50r11, c50r12, c50r14, c50r16, EV0, EV1, EV2, EV3, EV4, EV5, EV6, EV7, EV8, VALS, plug, ite_same, decide_true, decide_false, eq_self, ↓reduceIte, reduceCtorEq, Nat.reduceAdd, Nat.reduceEqDiff, Nat.reduceLT, Nat.reduceLeDiff, Nat.reduceMul, Nat.reduceSub, Nat.reduceDiv, Int.reduceToNat, Int.reduceAdd, Int.reduceSub, Int.reduceMul, Int.reduceNeg, Int.reduceEq, Int.reduceLT, Int.reduceLE]⟩
    | cons a xs =>
      cases ys with
      | nil =>
        rw [mt_nil2, List.append_nil] at e
        simp only [List.length_cons] at hlen
        repeat' first
          | with_reducible refine k_seq ?_
          | with_reducible refine k_skip ?_
          | with_reducible refine k_blkS ?_
          | with_reducible refine k_blkR ?_
          | with_reducible refine k_blkC ?_
          | with_reducible refine k_blkH ?_
          | with_reducible refine k_blkB ?_
          | with_reducible refine k_blkK ?_
          | with_reducible refine k_blkE ?_
          | with_reducible refine k_reg ?_
          | with_reducible refine k_head (by with_unfolding_all rfl) ?_
          | with_reducible refine k_headS ?_
          | (with_reducible refine SepK.mk ?_ ?_; (refine sepQ_P ?_; simp [sepQ, sepG, AOp.late, AOp.free, AOp.xs, AOp.isAl, tokNe, AV.tok, stS_get, strip, AX.val, c50r0, c50r1, c50r2, c50r3, c50r4, c50r5, c50r6, c50r7, c50r8, c50r9, c50r10, c50r11, c50r12, c50r14, c50r16, GA]; try omega))
          | with_reducible refine r_done ?_
          | with_reducible refine hr_done ?_
          | with_reducible refine s_go (by simp (disch := omega) only [c50r0, c50r1, c50r2, c50r3, c50r4, c50r5, c50r6, c50r7, c50r8, c50r9, c50r10, c50r11, c50r12, c50r14, c50r16, EV0, EV1, EV2, EV3, EV4, EV5, EV6, EV7, EV8, VALS, plug, ite_same, decide_true, decide_false, eq_self, ↓reduceIte, reduceCtorEq, Nat.reduceAdd, Nat.reduceEqDiff, Nat.reduceLT, Nat.reduceLeDiff, Nat.reduceMul, Nat.reduceSub, Nat.reduceDiv, Int.reduceToNat, Int.reduceAdd, Int.reduceSub, Int.reduceMul, Int.reduceNeg, Int.reduceEq, Int.reduceLT, Int.reduceLE]; with_reducible rfl) ?_
          | with_reducible refine h_go (by with_unfolding_all rfl) (by simp (disch := omega) only [c50r0, c50r1, c50r2, c50r3, c50r4, c50r5, c50r6, c50r7, c50r8, c50r9, c50r10, c50r11, c50r12, c50r14, c50r16, EV0, EV1, EV2, EV3, EV4, EV5, EV6, EV7, EV8, VALS, plug, ite_same, decide_true, decide_false, eq_self, ↓reduceIte, reduceCtorEq, Nat.reduceAdd, Nat.reduceEqDiff, Nat.reduceLT, Nat.reduceLeDiff, Nat.reduceMul, Nat.reduceSub, Nat.reduceDiv, Int.reduceToNat, Int.reduceAdd, Int.reduceSub, Int.reduceMul, Int.reduceNeg, Int.reduceEq, Int.reduceLT, Int.reduceLE]; with_reducible rfl) ?_
          | ((with_reducible refine chk_r ?_); refine r_callF (by simp only [CA, Nat.reduceEqDiff, ↓reduceIte]; rfl) (by exact rfl) (by simp only [CA, Nat.reduceEqDiff, ↓reduceIte]; rfl) rfl ?_)
          | ((with_reducible refine chk_h ?_); refine hr_callF (by simp only [CA, Nat.reduceEqDiff, ↓reduceIte]; rfl) (by exact rfl) (by simp only [CA, Nat.reduceEqDiff, ↓reduceIte]; rfl) rfl ?_)
          | ((with_reducible refine chk_h ?_); refine hr_app (by simp (disch := omega) only [c50r0, c50r1, c50r2, c50r3, c50r4, c50r5, c50r6, c50r7, c50r8, c50r9, c50r10, c50r11, c50r12, c50r14, c50r16, EV0, EV1, EV2, EV3, EV4, EV5, EV6, EV7, EV8, VALS, plug, ite_same, decide_true, decide_false, eq_self, ↓reduceIte, reduceCtorEq, Nat.reduceAdd, Nat.reduceEqDiff, Nat.reduceLT, Nat.reduceLeDiff, Nat.reduceMul, Nat.reduceSub, Nat.reduceDiv, Int.reduceToNat, Int.reduceAdd, Int.reduceSub, Int.reduceMul, Int.reduceNeg, Int.reduceEq, Int.reduceLT, Int.reduceLE]; with_reducible rfl) rfl ?_)
          | (with_reducible refine k_condP (by simp only [GA, Nat.reduceEqDiff, ↓reduceIte]; rfl) (by first | (simp only [BO]; rfl) | rfl) (fun ht => ?_) (fun ht => ?_) <;> try (first | exact False.elim ht | exact absurd rfl ht | exact absurd trivial ht | exact Bool.noConfusion ht))
          | (with_reducible refine k_ret ?_; repeat with_reducible (first | refine ret_thru ?_ | refine ret_blk ?_ | refine fin ?_))
          | (with_reducible refine k_exit ?_; repeat with_reducible (first | refine thru ?_ | refine out_blk ?_ | refine pass (by decide) ?_))
          | (refine post1 ?_; simp only [GA, Nat.reduceEqDiff, ↓reduceIte])
          | (refine post2 ?_; simp only [GA, Nat.reduceEqDiff, ↓reduceIte])
          | (refine post3 ?_; simp only [GA, Nat.reduceEqDiff, ↓reduceIte])
          | (refine postc (by simp only [GA, Nat.reduceEqDiff, ↓reduceIte]; rfl) (by simp (disch := omega) only [c50r0, c50r1, c50r2, c50r3, c50r4, c50r5, c50r6, c50r7, c50r8, c50r9, c50r10, c50r11, c50r12, c50r14, c50r16, EV0, EV1, EV2, EV3, EV4, EV5, EV6, EV7, EV8, VALS, plug, ite_same, decide_true, decide_false, eq_self, ↓reduceIte, reduceCtorEq, Nat.reduceAdd, Nat.reduceEqDiff, Nat.reduceLT, Nat.reduceLeDiff, Nat.reduceMul, Nat.reduceSub, Nat.reduceDiv, Int.reduceToNat, Int.reduceAdd, Int.reduceSub, Int.reduceMul, Int.reduceNeg, Int.reduceEq, Int.reduceLT, Int.reduceLE]; rfl) ?_)
          | refine post0 ?_
        all_goals try (exfalso; omega)
        rw [← e]
        exact ⟨hlt, x, (by simp only [Am.keep, List.map_cons, List.map_nil, GA, Nat.reduceEqDiff, ↓reduceIte]; try rfl), hx, by omega, by simp (disch := omega) only [hm, c50r0, c50r1, c50r2, c50r3, c50r4, c50r5, c50r6, c50r7, c50r8, c50r9, c50r10, c50r11, c50r12, c50r14, c50r16, EV0, EV1, EV2, EV3, EV4, EV5, EV6, EV7, EV8, VALS, plug, ite_same, decide_true, decide_false, eq_self, ↓reduceIte, reduceCtorEq, Nat.reduceAdd, Nat.reduceEqDiff, Nat.reduceLT, Nat.reduceLeDiff, Nat.reduceMul, Nat.reduceSub, Nat.reduceDiv, Int.reduceToNat, Int.reduceAdd, Int.reduceSub, Int.reduceMul, Int.reduceNeg, Int.reduceEq, Int.reduceLT, Int.reduceLE]⟩
      | cons b ys =>
        rw [mt_cons] at e
        have ha := hi1 a (by simp)
        have hb := hi2 b (by simp)
        have rA := rdT ha
        have rB := rdT hb
        simp only [eT] at rA rB
        simp only [List.length_cons] at hlen hn1 hn2
        have d1 : (nl (a :: xs)).drop 1 = nl xs := rfl
        have d2 : (nl (b :: ys)).drop 1 = nl ys := rfl
        have g1 : (nl (a :: xs))[0]? = some (.i .i64 (a : Int)) := rfl
        have g2 : (nl (b :: ys))[0]? = some (.i .i64 (b : Int)) := rfl
        have t1 : (nl xs).take xs.length = nl xs := List.take_of_length_le (by rw [nl_len]; omega)
        have t2 : (nl ys).take ys.length = nl ys := List.take_of_length_le (by rw [nl_len]; omega)
        have j1 : ∀ i ∈ xs, i < l.length := fun i hi => hi1 i (List.mem_cons_of_mem _ hi)
        have j2 : ∀ i ∈ ys, i < l.length := fun i hi => hi2 i (List.mem_cons_of_mem _ hi)
        have q60 := pc60 (l.getD a T0) (l.getD b T0) (hv.2.1 a ha) (hv.2.1 b hb)
        simp only [eT] at q60
        repeat' first
          | with_reducible refine k_seq ?_
          | with_reducible refine k_skip ?_
          | with_reducible refine k_blkS ?_
          | with_reducible refine k_blkR ?_
          | with_reducible refine k_blkC ?_
          | with_reducible refine k_blkH ?_
          | with_reducible refine k_blkB ?_
          | with_reducible refine k_blkK ?_
          | with_reducible refine k_blkE ?_
          | with_reducible refine k_reg ?_
          | with_reducible refine k_head (by with_unfolding_all rfl) ?_
          | with_reducible refine k_headS ?_
          | (with_reducible refine SepK.mk ?_ ?_; (refine sepQ_P ?_; simp [sepQ, sepG, AOp.late, AOp.free, AOp.xs, AOp.isAl, tokNe, AV.tok, stS_get, strip, AX.val, c50r0, c50r1, c50r2, c50r3, c50r4, c50r5, c50r6, c50r7, c50r8, c50r9, c50r10, c50r11, c50r12, c50r14, c50r16, GA]; try omega))
          | with_reducible refine r_done ?_
          | with_reducible refine hr_done ?_
          | with_reducible refine s_go (by simp (disch := omega) only [rA, rB, d1, d2, g1, g2, t1, t2, List.length_cons, hx, hm, flP_len, flP_snoc, c50r0, c50r1, c50r2, c50r3, c50r4, c50r5, c50r6, c50r7, c50r8, c50r9, c50r10, c50r11, c50r12, c50r14, c50r16, EV0, EV1, EV2, EV3, EV4, EV5, EV6, EV7, EV8, VALS, plug, ite_same, decide_true, decide_false, eq_self, ↓reduceIte, reduceCtorEq, Nat.reduceAdd, Nat.reduceEqDiff, Nat.reduceLT, Nat.reduceLeDiff, Nat.reduceMul, Nat.reduceSub, Nat.reduceDiv, Int.reduceToNat, Int.reduceAdd, Int.reduceSub, Int.reduceMul, Int.reduceNeg, Int.reduceEq, Int.reduceLT, Int.reduceLE]; with_reducible rfl) ?_
          | with_reducible refine h_go (by with_unfolding_all rfl) (by simp (disch := omega) only [rA, rB, d1, d2, g1, g2, t1, t2, List.length_cons, hx, hm, flP_len, flP_snoc, c50r0, c50r1, c50r2, c50r3, c50r4, c50r5, c50r6, c50r7, c50r8, c50r9, c50r10, c50r11, c50r12, c50r14, c50r16, EV0, EV1, EV2, EV3, EV4, EV5, EV6, EV7, EV8, VALS, plug, ite_same, decide_true, decide_false, eq_self, ↓reduceIte, reduceCtorEq, Nat.reduceAdd, Nat.reduceEqDiff, Nat.reduceLT, Nat.reduceLeDiff, Nat.reduceMul, Nat.reduceSub, Nat.reduceDiv, Int.reduceToNat, Int.reduceAdd, Int.reduceSub, Int.reduceMul, Int.reduceNeg, Int.reduceEq, Int.reduceLT, Int.reduceLE]; with_reducible rfl) ?_
          | ((with_reducible refine chk_r ?_); refine r_callF (by simp only [CA, Nat.reduceEqDiff, ↓reduceIte]; rfl) (by exact rfl) (by simp only [CA, Nat.reduceEqDiff, ↓reduceIte]; rfl) rfl ?_)
          | ((with_reducible refine chk_h ?_); refine hr_callF (by simp only [CA, Nat.reduceEqDiff, ↓reduceIte]; rfl) (by exact rfl) (by simp only [CA, Nat.reduceEqDiff, ↓reduceIte]; rfl) rfl ?_)
          | ((with_reducible refine chk_r ?_); refine r_callP (by simp only [CA, Nat.reduceEqDiff, ↓reduceIte]; rfl) (by simp only [CA, Nat.reduceEqDiff, ↓reduceIte]; rfl) (by first | exact q60 _) rfl ?_)
          | ((with_reducible refine chk_h ?_); refine hr_callP (by simp only [CA, Nat.reduceEqDiff, ↓reduceIte]; rfl) (by simp only [CA, Nat.reduceEqDiff, ↓reduceIte]; rfl) (by first | exact q60 _) rfl ?_)
          | ((with_reducible refine chk_h ?_); refine hr_callP1 (by simp only [CA, Nat.reduceEqDiff, ↓reduceIte]; rfl) (by simp only [CA, Nat.reduceEqDiff, ↓reduceIte]; rfl) (by simp (disch := omega) only [CA, Nat.reduceEqDiff, ↓reduceIte, firstTok_nil, firstTok_sl, firstTok_sl0, firstTok_i, firstTok_b, firstTok_ag, firstTok_p, firstTok_s]; rfl) (by first | exact q60 _) rfl ?_)
          | ((with_reducible refine chk_h ?_); refine hr_app (by simp (disch := omega) only [rA, rB, d1, d2, g1, g2, t1, t2, List.length_cons, hx, hm, flP_len, flP_snoc, c50r0, c50r1, c50r2, c50r3, c50r4, c50r5, c50r6, c50r7, c50r8, c50r9, c50r10, c50r11, c50r12, c50r14, c50r16, EV0, EV1, EV2, EV3, EV4, EV5, EV6, EV7, EV8, VALS, plug, ite_same, decide_true, decide_false, eq_self, ↓reduceIte, reduceCtorEq, Nat.reduceAdd, Nat.reduceEqDiff, Nat.reduceLT, Nat.reduceLeDiff, Nat.reduceMul, Nat.reduceSub, Nat.reduceDiv, Int.reduceToNat, Int.reduceAdd, Int.reduceSub, Int.reduceMul, Int.reduceNeg, Int.reduceEq, Int.reduceLT, Int.reduceLE]; with_reducible rfl) rfl ?_)
          | (with_reducible refine k_condP (by simp only [GA, Nat.reduceEqDiff, ↓reduceIte]; rfl) (by first | (simp only [BO]; rfl) | rfl) (fun ht => ?_) (fun ht => ?_) <;> try (first | exact False.elim ht | exact absurd rfl ht | exact absurd trivial ht | exact Bool.noConfusion ht))
          | (with_reducible refine k_ret ?_; repeat with_reducible (first | refine ret_thru ?_ | refine ret_blk ?_ | refine fin ?_))
          | (with_reducible refine k_exit ?_; repeat with_reducible (first | refine thru ?_ | refine out_blk ?_ | refine pass (by decide) ?_))
          | (refine post1 ?_; simp only [GA, Nat.reduceEqDiff, ↓reduceIte])
          | (refine post2 ?_; simp only [GA, Nat.reduceEqDiff, ↓reduceIte])
          | (refine post3 ?_; simp only [GA, Nat.reduceEqDiff, ↓reduceIte])
          | (refine postc (by simp only [GA, Nat.reduceEqDiff, ↓reduceIte]; rfl) (by simp (disch := omega) only [rA, rB, d1, d2, g1, g2, t1, t2, List.length_cons, hx, hm, flP_len, flP_snoc, c50r0, c50r1, c50r2, c50r3, c50r4, c50r5, c50r6, c50r7, c50r8, c50r9, c50r10, c50r11, c50r12, c50r14, c50r16, EV0, EV1, EV2, EV3, EV4, EV5, EV6, EV7, EV8, VALS, plug, ite_same, decide_true, decide_false, eq_self, ↓reduceIte, reduceCtorEq, Nat.reduceAdd, Nat.reduceEqDiff, Nat.reduceLT, Nat.reduceLeDiff, Nat.reduceMul, Nat.reduceSub, Nat.reduceDiv, Int.reduceToNat, Int.reduceAdd, Int.reduceSub, Int.reduceMul, Int.reduceNeg, Int.reduceEq, Int.reduceLT, Int.reduceLE]; rfl) ?_)
          | refine post0 ?_
        all_goals try (exfalso; omega)
        · rw [if_pos (by first | assumption | (simp only [Bool.and_eq_true, Bool.or_eq_true, decide_eq_true_eq]; assumption))] at e
          refine ⟨(?tk, acc ++ [(a, b)], xs, ys), ?gm, ?g1, ?g2, ?g3, ?g4, ?g5, ?g6, j1, j2, ?g7⟩
          case g1 =>
            simp only [Am.keep, List.map_cons, List.map_nil, GA, Nat.reduceEqDiff, ↓reduceIte, List.length_append, List.length_cons, List.length_nil, Nat.zero_add, Nat.add_sub_cancel]
            rfl
          case gm => simp only [List.length_cons]; omega
          case g2 => simp only []; omega
          case g3 => simp only []; rw [List.append_assoc]; exact e
          case g4 => (try simp only [List.length_append, List.length_cons, List.length_nil]); omega
          case g5 => show xs.length ≤ 60; (try simp only [List.length_cons]); omega
          case g6 => show ys.length ≤ 60; (try simp only [List.length_cons]); omega
          case g7 => simp (disch := omega) only [flP_snoc, c50r0, c50r1, c50r2, c50r3, c50r4, c50r5, c50r6, c50r7, c50r8, c50r9, c50r10, c50r11, c50r12, c50r14, c50r16, EV0, EV1, EV2, EV3, EV4, EV5, EV6, EV7, EV8, VALS, plug, ite_same, decide_true, decide_false, eq_self, ↓reduceIte, reduceCtorEq, Nat.reduceAdd, Nat.reduceEqDiff, Nat.reduceLT, Nat.reduceLeDiff, Nat.reduceMul, Nat.reduceSub, Nat.reduceDiv, Int.reduceToNat, Int.reduceAdd, Int.reduceSub, Int.reduceMul, Int.reduceNeg, Int.reduceEq, Int.reduceLT, Int.reduceLE] <;> rfl
        · rw [if_neg (by first | assumption | (simp only [Bool.and_eq_true, Bool.or_eq_true, decide_eq_true_eq]; assumption)), if_pos (by first | assumption | (simp only [Bool.and_eq_true, Bool.or_eq_true, decide_eq_true_eq]; assumption))] at e
          refine ⟨(x, acc, xs, b :: ys), ?gm, ?g1, hx, e, ?g4, ?g5, ?g6, j1, hi2, ?g7⟩
          case g1 =>
            simp only [Am.keep, List.map_cons, List.map_nil, GA, Nat.reduceEqDiff, ↓reduceIte, List.length_append, List.length_cons, List.length_nil, Nat.zero_add, Nat.add_sub_cancel]
            try rfl
          case gm => simp only [List.length_cons]; omega
          case g4 => (try simp only [List.length_append, List.length_cons, List.length_nil]); omega
          case g5 => show xs.length ≤ 60; (try simp only [List.length_cons]); omega
          case g6 => show (b :: ys).length ≤ 60; (try simp only [List.length_cons]); omega
          case g7 => simp (disch := omega) only [hm, c50r0, c50r1, c50r2, c50r3, c50r4, c50r5, c50r6, c50r7, c50r8, c50r9, c50r10, c50r11, c50r12, c50r14, c50r16, EV0, EV1, EV2, EV3, EV4, EV5, EV6, EV7, EV8, VALS, plug, ite_same, decide_true, decide_false, eq_self, ↓reduceIte, reduceCtorEq, Nat.reduceAdd, Nat.reduceEqDiff, Nat.reduceLT, Nat.reduceLeDiff, Nat.reduceMul, Nat.reduceSub, Nat.reduceDiv, Int.reduceToNat, Int.reduceAdd, Int.reduceSub, Int.reduceMul, Int.reduceNeg, Int.reduceEq, Int.reduceLT, Int.reduceLE]
        · rw [if_neg (by first | assumption | (simp only [Bool.and_eq_true, Bool.or_eq_true, decide_eq_true_eq]; assumption)), if_neg (by first | assumption | (simp only [Bool.and_eq_true, Bool.or_eq_true, decide_eq_true_eq]; assumption))] at e
          refine ⟨(x, acc, a :: xs, ys), ?gm, ?g1, hx, e, ?g4, ?g5, ?g6, hi1, j2, ?g7⟩
          case g1 =>
            simp only [Am.keep, List.map_cons, List.map_nil, GA, Nat.reduceEqDiff, ↓reduceIte, List.length_append, List.length_cons, List.length_nil, Nat.zero_add, Nat.add_sub_cancel]
            try rfl
          case gm => simp only [List.length_cons]; omega
          case g4 => (try simp only [List.length_append, List.length_cons, List.length_nil]); omega
          case g5 => show (a :: xs).length ≤ 60; (try simp only [List.length_cons]); omega
          case g6 => show ys.length ≤ 60; (try simp only [List.length_cons]); omega
          case g7 => simp (disch := omega) only [hm, c50r0, c50r1, c50r2, c50r3, c50r4, c50r5, c50r6, c50r7, c50r8, c50r9, c50r10, c50r11, c50r12, c50r14, c50r16, EV0, EV1, EV2, EV3, EV4, EV5, EV6, EV7, EV8, VALS, plug, ite_same, decide_true, decide_false, eq_self, ↓reduceIte, reduceCtorEq, Nat.reduceAdd, Nat.reduceEqDiff, Nat.reduceLT, Nat.reduceLeDiff, Nat.reduceMul, Nat.reduceSub, Nat.reduceDiv, Int.reduceToNat, Int.reduceAdd, Int.reduceSub, Int.reduceMul, Int.reduceNeg, Int.reduceEq, Int.reduceLT, Int.reduceLE]
  · obtain rfl : k = 9 := by omega
    have c1 : ¬ ((10 : Nat) : Int) ≤ 9 := by omega
    repeat' first
      | with_reducible refine k_seq ?_
      | with_reducible refine k_skip ?_
      | with_reducible refine k_blkS ?_
      | with_reducible refine k_blkR ?_
      | with_reducible refine k_blkC ?_
      | with_reducible refine k_blkH ?_
      | with_reducible refine k_blkB ?_
      | with_reducible refine k_blkK ?_
      | with_reducible refine k_blkE ?_
      | with_reducible refine k_reg ?_
      | with_reducible refine k_head (by with_unfolding_all rfl) ?_
      | with_reducible refine k_headS ?_
      | (with_reducible refine SepK.mk ?_ ?_; (refine sepQ_P ?_; simp [sepQ, sepG, AOp.late, AOp.free, AOp.xs, AOp.isAl, tokNe, AV.tok, stS_get, strip, AX.val, c50r0, c50r1, c50r2, c50r3, c50r4, c50r5, c50r6, c50r7, c50r8, c50r9, c50r10, c50r11, c50r12, c50r14, c50r16, GA]; try omega))
      | with_reducible refine r_done ?_
      | with_reducible refine hr_done ?_
      | with_reducible refine s_go (by simp (disch := omega) only [c1, c50r0, c50r1, c50r2, c50r3, c50r4, c50r5, c50r6, c50r7, c50r8, c50r9, c50r10, c50r11, c50r12, c50r14, c50r16, EV0, EV1, EV2, EV3, EV4, EV5, EV6, EV7, EV8, VALS, plug, ite_same, decide_true, decide_false, eq_self, ↓reduceIte, reduceCtorEq, Nat.reduceAdd, Nat.reduceEqDiff, Nat.reduceLT, Nat.reduceLeDiff, Nat.reduceMul, Nat.reduceSub, Nat.reduceDiv, Int.reduceToNat, Int.reduceAdd, Int.reduceSub, Int.reduceMul, Int.reduceNeg, Int.reduceEq, Int.reduceLT, Int.reduceLE]; with_reducible rfl) ?_
      | with_reducible refine h_go (by with_unfolding_all rfl) (by simp (disch := omega) only [c1, c50r0, c50r1, c50r2, c50r3, c50r4, c50r5, c50r6, c50r7, c50r8, c50r9, c50r10, c50r11, c50r12, c50r14, c50r16, EV0, EV1, EV2, EV3, EV4, EV5, EV6, EV7, EV8, VALS, plug, ite_same, decide_true, decide_false, eq_self, ↓reduceIte, reduceCtorEq, Nat.reduceAdd, Nat.reduceEqDiff, Nat.reduceLT, Nat.reduceLeDiff, Nat.reduceMul, Nat.reduceSub, Nat.reduceDiv, Int.reduceToNat, Int.reduceAdd, Int.reduceSub, Int.reduceMul, Int.reduceNeg, Int.reduceEq, Int.reduceLT, Int.reduceLE]; with_reducible rfl) ?_
      | ((with_reducible refine chk_r ?_); refine r_callF (by simp only [CA, Nat.reduceEqDiff, ↓reduceIte]; rfl) (by exact rfl) (by simp only [CA, Nat.reduceEqDiff, ↓reduceIte]; rfl) rfl ?_)
      | ((with_reducible refine chk_h ?_); refine hr_callF (by simp only [CA, Nat.reduceEqDiff, ↓reduceIte]; rfl) (by exact rfl) (by simp only [CA, Nat.reduceEqDiff, ↓reduceIte]; rfl) rfl ?_)
      | ((with_reducible refine chk_h ?_); refine hr_app (by simp (disch := omega) only [c1, c50r0, c50r1, c50r2, c50r3, c50r4, c50r5, c50r6, c50r7, c50r8, c50r9, c50r10, c50r11, c50r12, c50r14, c50r16, EV0, EV1, EV2, EV3, EV4, EV5, EV6, EV7, EV8, VALS, plug, ite_same, decide_true, decide_false, eq_self, ↓reduceIte, reduceCtorEq, Nat.reduceAdd, Nat.reduceEqDiff, Nat.reduceLT, Nat.reduceLeDiff, Nat.reduceMul, Nat.reduceSub, Nat.reduceDiv, Int.reduceToNat, Int.reduceAdd, Int.reduceSub, Int.reduceMul, Int.reduceNeg, Int.reduceEq, Int.reduceLT, Int.reduceLE]; with_reducible rfl) rfl ?_)
      | (with_reducible refine k_condP (by simp only [GA, Nat.reduceEqDiff, ↓reduceIte]; rfl) (by first | (simp only [BO]; rfl) | rfl) (fun ht => ?_) (fun ht => ?_) <;> try (first | exact False.elim ht | exact absurd rfl ht | exact absurd trivial ht | exact Bool.noConfusion ht))
      | (with_reducible refine k_ret ?_; repeat with_reducible (first | refine ret_thru ?_ | refine ret_blk ?_ | refine fin ?_))
      | (with_reducible refine k_exit ?_; repeat with_reducible (first | refine thru ?_ | refine out_blk ?_ | refine pass (by decide) ?_))
      | (refine post1 ?_; simp only [GA, Nat.reduceEqDiff, ↓reduceIte])
      | (refine post2 ?_; simp only [GA, Nat.reduceEqDiff, ↓reduceIte])
      | (refine post3 ?_; simp only [GA, Nat.reduceEqDiff, ↓reduceIte])
      | (refine postc (by simp only [GA, Nat.reduceEqDiff, ↓reduceIte]; rfl) (by simp (disch := omega) only [c1, c50r0, c50r1, c50r2, c50r3, c50r4, c50r5, c50r6, c50r7, c50r8, c50r9, c50r10, c50r11, c50r12, c50r14, c50r16, EV0, EV1, EV2, EV3, EV4, EV5, EV6, EV7, EV8, VALS, plug, ite_same, decide_true, decide_false, eq_self, ↓reduceIte, reduceCtorEq, Nat.reduceAdd, Nat.reduceEqDiff, Nat.reduceLT, Nat.reduceLeDiff, Nat.reduceMul, Nat.reduceSub, Nat.reduceDiv, Int.reduceToNat, Int.reduceAdd, Int.reduceSub, Int.reduceMul, Int.reduceNeg, Int.reduceEq, Int.reduceLT, Int.reduceLE]; rfl) ?_)
      | refine post0 ?_
    exact ends_sl (k := 2) hm (by rw [flP_len])
end Go.Proofs.Ytbhkbaapfioijaa
set_option linter.unusedVariables false
set_option linter.unusedSimpArgs false
namespace Go.Proofs.Ytbhkbaapfioijaa
open Go Go.Am Go.Proofs Go.Sort
/-! ### Match, Most, and the example -/
noncomputable def matR (l : List T) (tol : Int) : List (Nat × Nat) := if asked l tol = 0 then matchL l tol else []
theorem pc17 (l : List T) (hl : l.length ≤ 9223372036854775807) (tol : Int) : PC Try.prog 17 [vT l, .i .i64 tol] (.tu [vP (matR l tol), .i .i64 (asked l tol)]) := by
  refine pc_fn fn17 (by simp only [AV.plains, AV.plain, il_plain, bl_plain, Bool.and_true, Bool.true_and, Bool.and_self, flT_plain, flP_plain]) (by simp only [AV.plains, AV.plain, il_plain, bl_plain, Bool.and_true, Bool.true_and, Bool.and_self, flT_plain, flP_plain]) (Nat.le_of_ble_eq_true rfl) ?_
  rw [initSt2]
  have q := pc49 l hl tol
  unfold matR
  by_cases h : asked l tol = 0
  · rw [if_pos h]
    have q2 := pc50 l (asked_ok h).1 tol
    rw [h] at q ⊢
    repeat' first
      | with_reducible refine k_seq ?_
      | with_reducible refine k_skip ?_
      | with_reducible refine k_blkS ?_
      | with_reducible refine k_blkR ?_
      | with_reducible refine k_blkC ?_
      | with_reducible refine k_blkH ?_
      | with_reducible refine k_blkB ?_
      | with_reducible refine k_blkK ?_
      | with_reducible refine k_blkE ?_
      | with_reducible refine k_reg ?_
      | with_reducible refine r_done ?_
      | with_reducible refine s_go (by simp (disch := omega) only [c17r0, c17r1, c17r2, c17r3, c17r4, EV0, EV1, EV2, EV3, EV4, EV5, EV6, EV7, EV8, VALS, plug, ite_same, decide_true, decide_false, eq_self, ↓reduceIte, reduceCtorEq, Nat.reduceAdd, Nat.reduceEqDiff, Nat.reduceLT, Nat.reduceLeDiff, Nat.reduceMul, Nat.reduceSub, Nat.reduceDiv, Int.reduceToNat, Int.reduceAdd, Int.reduceSub, Int.reduceMul, Int.reduceNeg, Int.reduceEq, Int.reduceLT, Int.reduceLE]; with_reducible rfl) ?_
      | ((with_reducible refine chk_r ?_); refine r_callF (by simp only [CA, Nat.reduceEqDiff, ↓reduceIte]; rfl) (by exact rfl) (by simp only [CA, Nat.reduceEqDiff, ↓reduceIte]; rfl) rfl ?_)
      | ((with_reducible refine chk_r ?_); refine r_callP (by simp only [CA, Nat.reduceEqDiff, ↓reduceIte]; rfl) (by simp only [CA, Nat.reduceEqDiff, ↓reduceIte]; rfl) (by first | exact q _ | exact q2 _) rfl ?_)
      | (with_reducible refine k_condP (by simp only [GA, Nat.reduceEqDiff, ↓reduceIte]; rfl) (by first | (simp only [BO]; rfl) | rfl) (fun ht => ?_) (fun ht => ?_) <;> try (first | exact False.elim ht | exact absurd rfl ht | exact absurd trivial ht | exact Bool.noConfusion ht))
      | (with_reducible refine k_ret ?_; repeat with_reducible (first | refine ret_thru ?_ | refine ret_blk ?_ | refine fin ?_))
      | (with_reducible refine k_exit ?_; repeat with_reducible (first | refine thru ?_ | refine out_blk ?_ | refine pass (by decide) ?_))
      | (refine post1 ?_; simp only [GA, Nat.reduceEqDiff, ↓reduceIte])
      | (refine post2 ?_; simp only [GA, Nat.reduceEqDiff, ↓reduceIte])
      | (refine post3 ?_; simp only [GA, Nat.reduceEqDiff, ↓reduceIte])
      | (refine postc (by simp only [GA, Nat.reduceEqDiff, ↓reduceIte]; rfl) (by simp (disch := omega) only [c17r0, c17r1, c17r2, c17r3, c17r4, EV0, EV1, EV2, EV3, EV4, EV5, EV6, EV7, EV8, VALS, plug, ite_same, decide_true, decide_false, eq_self, ↓reduceIte, reduceCtorEq, Nat.reduceAdd, Nat.reduceEqDiff, Nat.reduceLT, Nat.reduceLeDiff, Nat.reduceMul, Nat.reduceSub, Nat.reduceDiv, Int.reduceToNat, Int.reduceAdd, Int.reduceSub, Int.reduceMul, Int.reduceNeg, Int.reduceEq, Int.reduceLT, Int.reduceLE]; rfl) ?_)
      | refine post0 ?_
    all_goals first | exact ends_of | exact ends_eq rfl
  · rw [if_neg h]
    generalize asked l tol = A at q h ⊢
    repeat' first
      | with_reducible refine k_seq ?_
      | with_reducible refine k_skip ?_
      | with_reducible refine k_blkS ?_
      | with_reducible refine k_blkR ?_
      | with_reducible refine k_blkC ?_
      | with_reducible refine k_blkH ?_
      | with_reducible refine k_blkB ?_
      | with_reducible refine k_blkK ?_
      | with_reducible refine k_blkE ?_
      | with_reducible refine k_reg ?_
      | with_reducible refine r_done ?_
      | with_reducible refine s_go (by simp (disch := omega) only [h, c17r0, c17r1, c17r2, c17r3, c17r4, EV0, EV1, EV2, EV3, EV4, EV5, EV6, EV7, EV8, VALS, plug, ite_same, decide_true, decide_false, eq_self, ↓reduceIte, reduceCtorEq, Nat.reduceAdd, Nat.reduceEqDiff, Nat.reduceLT, Nat.reduceLeDiff, Nat.reduceMul, Nat.reduceSub, Nat.reduceDiv, Int.reduceToNat, Int.reduceAdd, Int.reduceSub, Int.reduceMul, Int.reduceNeg, Int.reduceEq, Int.reduceLT, Int.reduceLE]; with_reducible rfl) ?_
      | ((with_reducible refine chk_r ?_); refine r_callF (by simp only [CA, Nat.reduceEqDiff, ↓reduceIte]; rfl) (by exact rfl) (by simp only [CA, Nat.reduceEqDiff, ↓reduceIte]; rfl) rfl ?_)
      | ((with_reducible refine chk_r ?_); refine r_callP (by simp only [CA, Nat.reduceEqDiff, ↓reduceIte]; rfl) (by simp only [CA, Nat.reduceEqDiff, ↓reduceIte]; rfl) (by first | exact q _) rfl ?_)
      | (with_reducible refine k_condP (by simp only [GA, Nat.reduceEqDiff, ↓reduceIte]; rfl) (by first | (simp only [BO]; rfl) | rfl) (fun ht => ?_) (fun ht => ?_) <;> try (first | exact False.elim ht | exact absurd rfl ht | exact absurd trivial ht | exact Bool.noConfusion ht))
      | (with_reducible refine k_ret ?_; repeat with_reducible (first | refine ret_thru ?_ | refine ret_blk ?_ | refine fin ?_))
      | (with_reducible refine k_exit ?_; repeat with_reducible (first | refine thru ?_ | refine out_blk ?_ | refine pass (by decide) ?_))
      | (refine post1 ?_; simp only [GA, Nat.reduceEqDiff, ↓reduceIte])
      | (refine post2 ?_; simp only [GA, Nat.reduceEqDiff, ↓reduceIte])
      | (refine post3 ?_; simp only [GA, Nat.reduceEqDiff, ↓reduceIte])
      | (refine postc (by simp only [GA, Nat.reduceEqDiff, ↓reduceIte]; rfl) (by simp (disch := omega) only [h, c17r0, c17r1, c17r2, c17r3, c17r4, EV0, EV1, EV2, EV3, EV4, EV5, EV6, EV7, EV8, VALS, plug, ite_same, decide_true, decide_false, eq_self, ↓reduceIte, reduceCtorEq, Nat.reduceAdd, Nat.reduceEqDiff, Nat.reduceLT, Nat.reduceLeDiff, Nat.reduceMul, Nat.reduceSub, Nat.reduceDiv, Int.reduceToNat, Int.reduceAdd, Int.reduceSub, Int.reduceMul, Int.reduceNeg, Int.reduceEq, Int.reduceLT, Int.reduceLE]; rfl) ?_)
      | refine post0 ?_
    exact ends_nil2
theorem pc16 (l : List T) (hl : l.length ≤ 9223372036854775807) (tol : Int) : PC Try.prog 16 [vT l, .i .i64 tol] (.tu [.i .i64 ((matR l tol).length : Int), .i .i64 (asked l tol)]) := by
  refine pc_fn fn16 (by simp only [AV.plains, AV.plain, il_plain, bl_plain, Bool.and_true, Bool.true_and, Bool.and_self, flT_plain]) (by simp only [AV.plains, AV.plain, il_plain, bl_plain, Bool.and_true, Bool.true_and, Bool.and_self, flT_plain]) (Nat.le_of_ble_eq_true rfl) ?_
  rw [initSt2]
  have q := pc17 l hl tol
  generalize asked l tol = A at q ⊢
  generalize matR l tol = M at q ⊢
  repeat' first
    | with_reducible refine k_seq ?_
    | with_reducible refine k_skip ?_
    | with_reducible refine k_blkS ?_
    | with_reducible refine k_blkR ?_
    | with_reducible refine k_blkC ?_
    | with_reducible refine k_blkH ?_
    | with_reducible refine k_blkB ?_
    | with_reducible refine k_blkK ?_
    | with_reducible refine k_blkE ?_
    | with_reducible refine k_reg ?_
    | with_reducible refine r_done ?_
    | with_reducible refine s_go (by simp (disch := omega) only [c16r0, c16r1, c16r2, EV0, EV1, EV2, EV3, EV4, EV5, EV6, EV7, EV8, VALS, plug, ite_same, decide_true, decide_false, eq_self, ↓reduceIte, reduceCtorEq, Nat.reduceAdd, Nat.reduceEqDiff, Nat.reduceLT, Nat.reduceLeDiff, Nat.reduceMul, Nat.reduceSub, Nat.reduceDiv, Int.reduceToNat, Int.reduceAdd, Int.reduceSub, Int.reduceMul, Int.reduceNeg, Int.reduceEq, Int.reduceLT, Int.reduceLE]; with_reducible rfl) ?_
    | ((with_reducible refine chk_r ?_); refine r_callF (by simp only [CA, Nat.reduceEqDiff, ↓reduceIte]; rfl) (by exact rfl) (by simp only [CA, Nat.reduceEqDiff, ↓reduceIte]; rfl) rfl ?_)
    | ((with_reducible refine chk_r ?_); refine r_callP (by simp only [CA, Nat.reduceEqDiff, ↓reduceIte]; rfl) (by simp only [CA, Nat.reduceEqDiff, ↓reduceIte]; rfl) (by first | exact q _) rfl ?_)
    | (with_reducible refine k_condP (by simp only [GA, Nat.reduceEqDiff, ↓reduceIte]; rfl) (by first | (simp only [BO]; rfl) | rfl) (fun ht => ?_) (fun ht => ?_) <;> try (first | exact False.elim ht | exact absurd rfl ht | exact absurd trivial ht | exact Bool.noConfusion ht))
    | (with_reducible refine k_ret ?_; repeat with_reducible (first | refine ret_thru ?_ | refine ret_blk ?_ | refine fin ?_))
    | (with_reducible refine k_exit ?_; repeat with_reducible (first | refine thru ?_ | refine out_blk ?_ | refine pass (by decide) ?_))
    | (refine post1 ?_; simp only [GA, Nat.reduceEqDiff, ↓reduceIte])
    | (refine post2 ?_; simp only [GA, Nat.reduceEqDiff, ↓reduceIte])
    | (refine post3 ?_; simp only [GA, Nat.reduceEqDiff, ↓reduceIte])
    | (refine postc (by simp only [GA, Nat.reduceEqDiff, ↓reduceIte]; rfl) (by simp (disch := omega) only [c16r0, c16r1, c16r2, EV0, EV1, EV2, EV3, EV4, EV5, EV6, EV7, EV8, VALS, plug, ite_same, decide_true, decide_false, eq_self, ↓reduceIte, reduceCtorEq, Nat.reduceAdd, Nat.reduceEqDiff, Nat.reduceLT, Nat.reduceLeDiff, Nat.reduceMul, Nat.reduceSub, Nat.reduceDiv, Int.reduceToNat, Int.reduceAdd, Int.reduceSub, Int.reduceMul, Int.reduceNeg, Int.reduceEq, Int.reduceLT, Int.reduceLE]; rfl) ?_)
    | refine post0 ?_
  all_goals first | exact ends_of | exact ends_eq rfl
def Lx : List T := [⟨1, 1, 104, 1⟩, ⟨2, 2, 103, 1⟩]
theorem Lx_VL : VL Lx := ⟨by decide, by
  show vk Lx 2
  refine vk_succ.2 ⟨vk_succ.2 ⟨⟨fun i h => by omega, fun i j h1 h2 => by omega⟩, by decide, fun i h => by omega⟩, by decide, fun i h => ?_⟩
  obtain rfl : i = 0 := by omega
  decide⟩
theorem Lx_side {s c : Int} (h : ¬ c = 1) : sideL Lx s c = [] := by
  have : sfil Lx s c Lx.length = [] := by
    unfold sfil
    rw [List.filter_eq_nil_iff]
    intro i hi
    simp only [Lx, List.length_cons, List.length_nil, List.mem_range] at hi
    have : i = 0 ∨ i = 1 := by omega
    rcases this with rfl | rfl <;> simp [onside, Lx] <;> omega
  unfold sideL; rw [this, List.mergeSort_nil]
theorem Lx_1 : sideL Lx 1 1 = [0] := by
  have : sfil Lx 1 1 Lx.length = [0] := by decide
  unfold sideL; rw [this, List.mergeSort_singleton]
theorem Lx_2 : sideL Lx 2 1 = [1] := by
  have : sfil Lx 2 1 Lx.length = [1] := by decide
  unfold sideL; rw [this, List.mergeSort_singleton]
theorem Lx_mc (tol : Int) : ∀ k, mc Lx tol (k + 1) = mt Lx tol [0] [1]
  | 0 => by
    rw [mc_succ, show (((0 + 1 : Nat)) : Int) = 1 from rfl, Lx_1, Lx_2]
    simp [mc]
  | k + 1 => by
    rw [mc_succ, Lx_mc tol k, Lx_side (by omega), mt_nil1, List.append_nil]
theorem Lx_match2 : matchL Lx 2 = [(0, 1)] := by
  unfold matchL
  rw [Lx_mc, mt_cons, mt_nil1, if_pos (by decide)]
theorem Lx_match0 : matchL Lx 0 = [] := by
  unfold matchL
  rw [Lx_mc, mt_cons, if_neg (by decide), if_neg (by decide), mt_nil2]
section
variable {P : Program} {N : Nat} {Q : Exit → St → AH → Prop} {st : St} {h : AH}
/-- a row that lies in one slot alone, az a value from here on -/
theorem w_frz1 {c : AC} (d : Nat) {t n a : Nat} (k : Nat) {cs : List AV} (hm : h.m t = some (.cells true cs)) (hd : st.get d = .sl t 0 n a) (hl : n * k = cs.length) (w : W P N c Q [(d, .vs n cs)] (h.kill t)) : W P N c Q st h :=
  w_frz hm (fun x => by
    simp only [St.get]
    by_cases e : x = d
    · subst e
      rw [hd, if_pos rfl]
      have := @FrzV.sl t cs 0 n k a (by omega)
      rwa [List.drop_zero, hl, List.take_length] at this
    · rw [if_neg e]; exact .un) w
end
theorem pc24 : PC Try.prog 24 [] (.b true) := by
  refine pc_fn fn24 (by simp only [AV.plains, AV.plain, il_plain, bl_plain, Bool.and_true, Bool.true_and, Bool.and_self]) (by simp only [AV.plains, AV.plain, il_plain, bl_plain, Bool.and_true, Bool.true_and, Bool.and_self]) (Nat.le_of_ble_eq_true rfl) ?_
  rw [initSt0]
  have v := Lx_VL
  have a2 : asked Lx 2 = 0 := asked_yes v (by decide)
  have a0 : asked Lx 0 = 0 := asked_yes v (by decide)
  have q1 := pc17 Lx (by decide) 2
  have q2 := pc16 Lx (by decide) 0
  rw [a2] at q1
  rw [a0] at q2
  unfold matR at q1 q2
  rw [if_pos a2, Lx_match2] at q1
  rw [if_pos a0, Lx_match0] at q2
  refine k_seq (k_reg ?_)
  refine s_go (by simp (disch := omega) only [c24r0, c24r1, c24r2, c24r3, c24r4, EV0, EV1, EV2, EV3, EV4, EV5, EV6, EV7, EV8, VALS, plug, ite_same, decide_true, decide_false, eq_self, ↓reduceIte, reduceCtorEq, Nat.reduceAdd, Nat.reduceEqDiff, Nat.reduceLT, Nat.reduceLeDiff, Nat.reduceMul, Nat.reduceSub, Nat.reduceDiv, Int.reduceToNat, Int.reduceAdd, Int.reduceSub, Int.reduceMul, Int.reduceNeg, Int.reduceEq, Int.reduceLT, Int.reduceLE]; with_reducible rfl) ?_
  refine r_done ?_
  refine k_seq (k_reg ?_)
  refine s_go (by simp (disch := omega) only [c24r0, c24r1, c24r2, c24r3, c24r4, EV0, EV1, EV2, EV3, EV4, EV5, EV6, EV7, EV8, VALS, plug, ite_same, decide_true, decide_false, eq_self, ↓reduceIte, reduceCtorEq, Nat.reduceAdd, Nat.reduceEqDiff, Nat.reduceLT, Nat.reduceLeDiff, Nat.reduceMul, Nat.reduceSub, Nat.reduceDiv, Int.reduceToNat, Int.reduceAdd, Int.reduceSub, Int.reduceMul, Int.reduceNeg, Int.reduceEq, Int.reduceLT, Int.reduceLE]; with_reducible rfl) ?_
  refine r_done ?_
  refine w_frz1 (t := 4) (n := 2) (a := 4) 1 4 (by simp (disch := omega) only [c24r0, c24r1, c24r2, c24r3, c24r4, EV0, EV1, EV2, EV3, EV4, EV5, EV6, EV7, EV8, VALS, plug, ite_same, decide_true, decide_false, eq_self, ↓reduceIte, reduceCtorEq, Nat.reduceAdd, Nat.reduceEqDiff, Nat.reduceLT, Nat.reduceLeDiff, Nat.reduceMul, Nat.reduceSub, Nat.reduceDiv, Int.reduceToNat, Int.reduceAdd, Int.reduceSub, Int.reduceMul, Int.reduceNeg, Int.reduceEq, Int.reduceLT, Int.reduceLE] <;> rfl) rfl rfl ?_
  refine k_seq ?_
  simp only [Lx, eP, eT, vT, vP, fl, List.map_cons, List.map_nil, List.flatten_cons, List.flatten_nil, List.cons_append, List.nil_append, List.append_nil, List.length_cons, List.length_nil] at q1 q2 ⊢
  repeat' first
    | with_reducible refine k_seq ?_
    | with_reducible refine k_skip ?_
    | with_reducible refine k_blkS ?_
    | with_reducible refine k_blkR ?_
    | with_reducible refine k_blkC ?_
    | with_reducible refine k_blkH ?_
    | with_reducible refine k_blkB ?_
    | with_reducible refine k_blkK ?_
    | with_reducible refine k_blkE ?_
    | with_reducible refine k_reg ?_
    | with_reducible refine r_done ?_
    | with_reducible refine s_go (by simp (disch := omega) only [c24r0, c24r1, c24r2, c24r3, c24r4, EV0, EV1, EV2, EV3, EV4, EV5, EV6, EV7, EV8, VALS, plug, ite_same, decide_true, decide_false, eq_self, ↓reduceIte, reduceCtorEq, Nat.reduceAdd, Nat.reduceEqDiff, Nat.reduceLT, Nat.reduceLeDiff, Nat.reduceMul, Nat.reduceSub, Nat.reduceDiv, Int.reduceToNat, Int.reduceAdd, Int.reduceSub, Int.reduceMul, Int.reduceNeg, Int.reduceEq, Int.reduceLT, Int.reduceLE]; with_reducible rfl) ?_
    | ((with_reducible refine chk_r ?_); refine r_callF (by simp only [CA, Nat.reduceEqDiff, ↓reduceIte]; rfl) (by exact rfl) (by simp only [CA, Nat.reduceEqDiff, ↓reduceIte]; rfl) rfl ?_)
    | ((with_reducible refine chk_r ?_); refine r_callP (by simp only [CA, Nat.reduceEqDiff, ↓reduceIte]; rfl) (by simp only [CA, Nat.reduceEqDiff, ↓reduceIte]; rfl) (by first | exact q1 _ | exact q2 _) rfl ?_)
    | (with_reducible refine k_condP (by simp only [GA, Nat.reduceEqDiff, ↓reduceIte]; rfl) (by first | (simp only [BO]; rfl) | rfl) (fun ht => ?_) (fun ht => ?_) <;> try (first | exact False.elim ht | exact absurd rfl ht | exact absurd trivial ht | exact Bool.noConfusion ht))
    | (with_reducible refine k_ret ?_; repeat with_reducible (first | refine ret_thru ?_ | refine ret_blk ?_ | refine fin ?_))
    | (with_reducible refine k_exit ?_; repeat with_reducible (first | refine thru ?_ | refine out_blk ?_ | refine pass (by decide) ?_))
    | (refine post1 ?_; simp only [GA, Nat.reduceEqDiff, ↓reduceIte])
    | (refine post2 ?_; simp only [GA, Nat.reduceEqDiff, ↓reduceIte])
    | (refine post3 ?_; simp only [GA, Nat.reduceEqDiff, ↓reduceIte])
    | (refine postc (by simp only [GA, Nat.reduceEqDiff, ↓reduceIte]; rfl) (by simp (disch := omega) only [c24r0, c24r1, c24r2, c24r3, c24r4, EV0, EV1, EV2, EV3, EV4, EV5, EV6, EV7, EV8, VALS, plug, ite_same, decide_true, decide_false, eq_self, ↓reduceIte, reduceCtorEq, Nat.reduceAdd, Nat.reduceEqDiff, Nat.reduceLT, Nat.reduceLeDiff, Nat.reduceMul, Nat.reduceSub, Nat.reduceDiv, Int.reduceToNat, Int.reduceAdd, Int.reduceSub, Int.reduceMul, Int.reduceNeg, Int.reduceEq, Int.reduceLT, Int.reduceLE]; rfl) ?_)
    | refine post0 ?_
  exact ends_eq (b_eq (by decide))
end Go.Proofs.Ytbhkbaapfioijaa
set_option linter.unusedVariables false
set_option linter.unusedSimpArgs false
namespace Go.Proofs.Ytbhkbaapfioijaa
open Go Go.Am Go.Proofs Go.Sort
/-! ### TempleValid -/
theorem pc23 (l : List T) (hl : l.length ≤ 9223372036854775807) (n : Int) : PC Try.prog 23 [vT l, .i .i64 n] (.b (decide (n < l.length))) := by
  refine pc_fn fn23 (by simp only [AV.plains, AV.plain, il_plain, bl_plain, Bool.and_true, Bool.true_and, Bool.and_self, flT_plain]) (by simp only [AV.plains, AV.plain, il_plain, bl_plain, Bool.and_true, Bool.true_and, Bool.and_self, flT_plain]) (Nat.le_of_ble_eq_true rfl) ?_
  rw [initSt2]
  repeat' first
    | with_reducible refine k_seq ?_
    | with_reducible refine k_skip ?_
    | with_reducible refine k_blkS ?_
    | with_reducible refine k_blkR ?_
    | with_reducible refine k_blkC ?_
    | with_reducible refine k_blkH ?_
    | with_reducible refine k_blkB ?_
    | with_reducible refine k_blkK ?_
    | with_reducible refine k_blkE ?_
    | with_reducible refine k_reg ?_
    | with_reducible refine r_done ?_
    | with_reducible refine s_go (by simp (disch := omega) only [c23r0, c23r1, EV0, EV1, EV2, EV3, EV4, EV5, EV6, EV7, EV8, VALS, plug, ite_same, decide_true, decide_false, eq_self, ↓reduceIte, reduceCtorEq, Nat.reduceAdd, Nat.reduceEqDiff, Nat.reduceLT, Nat.reduceLeDiff, Nat.reduceMul, Nat.reduceSub, Nat.reduceDiv, Int.reduceToNat, Int.reduceAdd, Int.reduceSub, Int.reduceMul, Int.reduceNeg, Int.reduceEq, Int.reduceLT, Int.reduceLE]; with_reducible rfl) ?_
    | ((with_reducible refine chk_r ?_); refine r_callF (by simp only [CA, Nat.reduceEqDiff, ↓reduceIte]; rfl) (by exact rfl) (by simp only [CA, Nat.reduceEqDiff, ↓reduceIte]; rfl) rfl ?_)
    | (with_reducible refine k_condP (by simp only [GA, Nat.reduceEqDiff, ↓reduceIte]; rfl) (by first | (simp only [BO]; rfl) | rfl) (fun ht => ?_) (fun ht => ?_) <;> try (first | exact False.elim ht | exact absurd rfl ht | exact absurd trivial ht | exact Bool.noConfusion ht))
    | (with_reducible refine k_ret ?_; repeat with_reducible (first | refine ret_thru ?_ | refine ret_blk ?_ | refine fin ?_))
    | (with_reducible refine k_exit ?_; repeat with_reducible (first | refine thru ?_ | refine out_blk ?_ | refine pass (by decide) ?_))
    | (refine post1 ?_; simp only [GA, Nat.reduceEqDiff, ↓reduceIte])
    | (refine post2 ?_; simp only [GA, Nat.reduceEqDiff, ↓reduceIte])
    | (refine post3 ?_; simp only [GA, Nat.reduceEqDiff, ↓reduceIte])
    | (refine postc (by simp only [GA, Nat.reduceEqDiff, ↓reduceIte]; rfl) (by simp (disch := omega) only [c23r0, c23r1, EV0, EV1, EV2, EV3, EV4, EV5, EV6, EV7, EV8, VALS, plug, ite_same, decide_true, decide_false, eq_self, ↓reduceIte, reduceCtorEq, Nat.reduceAdd, Nat.reduceEqDiff, Nat.reduceLT, Nat.reduceLeDiff, Nat.reduceMul, Nat.reduceSub, Nat.reduceDiv, Int.reduceToNat, Int.reduceAdd, Int.reduceSub, Int.reduceMul, Int.reduceNeg, Int.reduceEq, Int.reduceLT, Int.reduceLE]; rfl) ?_)
    | refine post0 ?_
  all_goals first | exact ends_of | exact ends_eq rfl
theorem decT (r : List AV) (h : Shps [.i .i64, .i .i64, .i .i64, .i .i64] r) : ∃ x : T, r = eT x ∧ True := by
  obtain ⟨_, _, rfl, t0, h⟩ := shps_cons h
  obtain ⟨_, _, rfl, t1, h⟩ := shps_cons h
  obtain ⟨_, _, rfl, t2, h⟩ := shps_cons h
  obtain ⟨_, _, rfl, t3, h⟩ := shps_cons h
  obtain rfl := shps_nil h
  obtain ⟨a, rfl, _⟩ := shp_i64 t0
  obtain ⟨b, rfl, _⟩ := shp_i64 t1
  obtain ⟨c, rfl, _⟩ := shp_i64 t2
  obtain ⟨d, rfl, _⟩ := shp_i64 t3
  exact ⟨⟨a, b, c, d⟩, rfl, trivial⟩
end Go.Proofs.Ytbhkbaapfioijaa
set_option linter.unusedVariables false
set_option linter.unusedSimpArgs false
namespace Go.Proofs.Ytbhkbaapfioijaa
open Go Go.Am Go.Proofs Go.Sort
/-! ### The pairs of match are the most: plain -/
/-- pairs between two lists, with no index twice -/
def Mat (l : List T) (tol : Int) (xs ys : List Nat) (M : List (Nat × Nat)) : Prop :=
  (M.map Prod.fst).Nodup ∧ (M.map Prod.snd).Nodup ∧ ∀ p ∈ M, p.1 ∈ xs ∧ p.2 ∈ ys ∧ apart (l.getD p.1 T0) (l.getD p.2 T0) ≤ tol
theorem inj_fst {M : List (Nat × Nat)} (h : (M.map Prod.fst).Nodup) {p q : Nat × Nat} (hp : p ∈ M) (hq : q ∈ M) (e : p.1 = q.1) : p = q := by
  induction M with
  | nil => cases hp
  | cons x M ih =>
    simp only [List.map_cons, List.nodup_cons, List.mem_map, not_exists, not_and] at h
    rcases List.mem_cons.1 hp with e1 | hp'
    · rcases List.mem_cons.1 hq with e2 | hq'
      · rw [e1, e2]
      · rw [e1] at e; exact absurd e.symm (h.1 q hq')
    · rcases List.mem_cons.1 hq with e2 | hq'
      · rw [e2] at e; exact absurd e (h.1 p hp')
      · exact ih h.2 hp' hq'
theorem inj_snd {M : List (Nat × Nat)} (h : (M.map Prod.snd).Nodup) {p q : Nat × Nat} (hp : p ∈ M) (hq : q ∈ M) (e : p.2 = q.2) : p = q := by
  induction M with
  | nil => cases hp
  | cons x M ih =>
    simp only [List.map_cons, List.nodup_cons, List.mem_map, not_exists, not_and] at h
    rcases List.mem_cons.1 hp with e1 | hp'
    · rcases List.mem_cons.1 hq with e2 | hq'
      · rw [e1, e2]
      · rw [e1] at e; exact absurd e.symm (h.1 q hq')
    · rcases List.mem_cons.1 hq with e2 | hq'
      · rw [e2] at e; exact absurd e (h.1 p hp')
      · exact ih h.2 hp' hq'
theorem nodup_fst {M : List (Nat × Nat)} (h : (M.map Prod.fst).Nodup) : M.Nodup := by
  induction M with
  | nil => exact List.nodup_nil
  | cons x M ih =>
    simp only [List.map_cons, List.nodup_cons, List.mem_map, not_exists, not_and] at h
    exact List.nodup_cons.2 ⟨fun hx => h.1 x hx rfl, ih h.2⟩
/-- one pair less -/
theorem Mat.erase {l : List T} {tol : Int} {xs ys : List Nat} {M : List (Nat × Nat)} (h : Mat l tol xs ys M) {p : Nat × Nat} (hp : p ∈ M) :
    Mat l tol xs ys (M.erase p) ∧ (∀ q ∈ M.erase p, q.1 ≠ p.1 ∧ q.2 ≠ p.2) ∧ (M.erase p).length + 1 = M.length := by
  have nd := nodup_fst h.1
  have sub : (M.erase p).Sublist M := List.erase_sublist
  refine ⟨⟨h.1.sublist (sub.map _), h.2.1.sublist (sub.map _), fun q hq => h.2.2 q (sub.subset hq)⟩, fun q hq => ?_, ?_⟩
  · have hne : q ≠ p := fun e => by subst e; exact nd.not_mem_erase hq
    exact ⟨fun e => hne (inj_fst h.1 (sub.subset hq) hp e), fun e => hne (inj_snd h.2.1 (sub.subset hq) hp e)⟩
  · rw [List.length_erase_of_mem hp]
    have := List.length_pos_of_mem hp
    omega
theorem Mat.small {l : List T} {tol : Int} {a b : Nat} {xs ys : List Nat} {M : List (Nat × Nat)} (h : Mat l tol (a :: xs) (b :: ys) M) (ha : ∀ q ∈ M, q.1 ≠ a) (hb : ∀ q ∈ M, q.2 ≠ b) : Mat l tol xs ys M :=
  ⟨h.1, h.2.1, fun p hp => by
    obtain ⟨h1, h2, h3⟩ := h.2.2 p hp
    exact ⟨(List.mem_cons.1 h1).resolve_left (ha p hp), (List.mem_cons.1 h2).resolve_left (hb p hp), h3⟩⟩
abbrev Inc (l : List T) (xs : List Nat) : Prop := xs.Pairwise fun i j => (l.getD i T0).len ≤ (l.getD j T0).len
theorem mt_max (l : List T) (tol : Int) : ∀ (n : Nat) (xs ys : List Nat) (M : List (Nat × Nat)), xs.length + ys.length ≤ n → Inc l xs → Inc l ys → Mat l tol xs ys M → M.length ≤ (mt l tol xs ys).length
  | n, [], ys, M, h, _, _, hM => by
    cases M with
    | nil => simp
    | cons p M => have := (hM.2.2 p (by simp)).1; cases this
  | n, a :: xs, [], M, h, _, _, hM => by
    cases M with
    | nil => simp
    | cons p M => have := (hM.2.2 p (by simp)).2.1; cases this
  | 0, a :: xs, b :: ys, M, h, _, _, _ => by simp at h
  | n + 1, a :: xs, b :: ys, M, h, hx, hy, hM => by
    rw [mt_cons]
    simp only [List.length_cons] at h
    have hx' := List.pairwise_cons.1 hx
    have hy' := List.pairwise_cons.1 hy
    by_cases hc : apart (l.getD a T0) (l.getD b T0) ≤ tol
    · rw [if_pos hc, List.length_cons]
      have ih := fun M' hM' => mt_max l tol n xs ys M' (by omega) hx'.2 hy'.2 hM'
      by_cases e1 : ∃ y, (a, y) ∈ M
      · obtain ⟨y, hy1⟩ := e1
        obtain ⟨m1, m2, m3⟩ := hM.erase hy1
        by_cases e2 : ∃ x, (x, b) ∈ M.erase (a, y)
        · obtain ⟨x, hx1⟩ := e2
          obtain ⟨k1, k2, k3⟩ := m1.erase hx1
          have r1 := m2 _ hx1
          simp only at r1
          have ax := hM.2.2 _ hy1
          have bx := m1.2.2 _ hx1
          simp only at ax bx
          have xin : x ∈ xs := (List.mem_cons.1 bx.1).resolve_left r1.1
          have yin : y ∈ ys := (List.mem_cons.1 ax.2.1).resolve_left (fun e => r1.2 e.symm)
          have lx := hx'.1 x xin
          have ly := hy'.1 y yin
          have : Mat l tol xs ys ((x, y) :: (M.erase (a, y)).erase (x, b)) := by
            have sm := k1.small (fun q hq => (m2 q (List.mem_of_mem_erase hq)).1) (fun q hq => (k2 q hq).2)
            refine ⟨?_, ?_, fun p hp => ?_⟩
            · simp only [List.map_cons, List.nodup_cons, List.mem_map, not_exists, not_and]
              exact ⟨fun q hq => (k2 q hq).1, k1.1⟩
            · simp only [List.map_cons, List.nodup_cons, List.mem_map, not_exists, not_and]
              exact ⟨fun q hq => (m2 q (List.mem_of_mem_erase hq)).2, k1.2.1⟩
            · rcases List.mem_cons.1 hp with rfl | hp
              · refine ⟨xin, yin, ?_⟩
                have q1 := ax.2.2
                have q2 := bx.2.2
                unfold apart at q1 q2 ⊢
                simp only
                omega
              · exact sm.2.2 p hp
          have := ih _ this
          rw [List.length_cons] at this
          omega
        · have := ih _ (m1.small (fun q hq => (m2 q hq).1) (fun q hq e => e2 ⟨q.1, by rw [← e]; exact hq⟩))
          omega
      · by_cases e2 : ∃ x, (x, b) ∈ M
        · obtain ⟨x, hx1⟩ := e2
          obtain ⟨k1, k2, k3⟩ := hM.erase hx1
          have := ih _ (k1.small (fun q hq e => e1 ⟨q.2, by rw [← e]; exact List.mem_of_mem_erase hq⟩) (fun q hq => (k2 q hq).2))
          omega
        · have := ih _ (hM.small (fun q hq e => e1 ⟨q.2, by rw [← e]; exact hq⟩) (fun q hq e => e2 ⟨q.1, by rw [← e]; exact hq⟩))
          omega
    · rw [if_neg hc]
      by_cases hlt : (l.getD a T0).len < (l.getD b T0).len
      · rw [if_pos hlt]
        refine mt_max l tol n xs (b :: ys) M (by simp only [List.length_cons]; omega) hx'.2 hy ⟨hM.1, hM.2.1, fun p hp => ?_⟩
        obtain ⟨h1, h2, h3⟩ := hM.2.2 p hp
        refine ⟨(List.mem_cons.1 h1).resolve_left fun e => ?_, h2, h3⟩
        rw [e] at h3
        have : (l.getD b T0).len ≤ (l.getD p.2 T0).len := by
          rcases List.mem_cons.1 h2 with e | h2
          · rw [e]; exact Int.le_refl _
          · exact hy'.1 _ h2
        unfold apart at h3 hc
        omega
      · rw [if_neg hlt]
        refine mt_max l tol n (a :: xs) ys M (by simp only [List.length_cons]; omega) hx hy'.2 ⟨hM.1, hM.2.1, fun p hp => ?_⟩
        obtain ⟨h1, h2, h3⟩ := hM.2.2 p hp
        refine ⟨h1, (List.mem_cons.1 h2).resolve_left fun e => ?_, h3⟩
        rw [e] at h3
        have : (l.getD a T0).len ≤ (l.getD p.1 T0).len := by
          rcases List.mem_cons.1 h1 with e | h1
          · rw [e]; exact Int.le_refl _
          · exact hx'.1 _ h1
        unfold apart at h3 hc
        omega
/-! all colours -/
def PairsOK (l : List T) (tol : Int) (M : List (Nat × Nat)) : Prop :=
  (M.map Prod.fst).Nodup ∧ (M.map Prod.snd).Nodup ∧ ∀ p ∈ M, p.1 < l.length ∧ p.2 < l.length ∧ (l.getD p.1 T0).side = 1 ∧ (l.getD p.2 T0).side = 2 ∧ (l.getD p.1 T0).col = (l.getD p.2 T0).col ∧ apart (l.getD p.1 T0) (l.getD p.2 T0) ≤ tol
theorem mem_side {l : List T} {s c : Int} {i : Nat} : i ∈ sideL l s c ↔ i < l.length ∧ (l.getD i T0).side = s ∧ (l.getD i T0).col = c := by
  unfold sideL
  rw [List.mem_mergeSort]
  simp [sfil, List.mem_filter, List.mem_range, onside]
theorem side_inc (l : List T) (s c : Int) : Inc l (sideL l s c) := by
  have := List.pairwise_mergeSort (le := fun i k => !ltT l k i) (by
    intro a b c h1 h2
    simp only [ltT, Bool.not_eq_true', decide_eq_false_iff_not] at *
    omega) (by
    intro a b
    simp only [ltT, Bool.or_eq_true, Bool.not_eq_true', decide_eq_false_iff_not]
    omega) (sfil l s c l.length)
  refine this.imp fun h => ?_
  simp only [ltT, Bool.not_eq_true', decide_eq_false_iff_not] at h
  omega
theorem side_nodup (l : List T) (s c : Int) : (sideL l s c).Nodup := by
  unfold sideL
  refine (List.mergeSort_perm _ _).nodup_iff.2 ?_
  exact List.nodup_range.filter _
theorem mc_max (l : List T) (tol : Int) : ∀ (k : Nat) (M : List (Nat × Nat)), PairsOK l tol M → (∀ p ∈ M, 1 ≤ (l.getD p.1 T0).col ∧ (l.getD p.1 T0).col ≤ k) → M.length ≤ (mc l tol k).length
  | 0, M, h, hc => by
    cases M with
    | nil => simp
    | cons p M => have := hc p (by simp); omega
  | k + 1, M, h, hc => by
    rw [mc_succ, List.length_append]
    let here : Nat × Nat → Bool := fun p => decide ((l.getD p.1 T0).col = ((k + 1 : Nat) : Int))
    have split : M.length = (M.filter here).length + (M.filter fun p => !here p).length := by
      rw [List.length_eq_countP_add_countP here, List.countP_eq_length_filter, List.countP_eq_length_filter]
      congr 2
      exact List.filter_congr fun p _ => by simp
    have h1 : (M.filter fun p => !here p).length ≤ (mc l tol k).length := by
      refine mc_max l tol k _ ⟨h.1.sublist (List.filter_sublist.map _), h.2.1.sublist (List.filter_sublist.map _), fun p hp => h.2.2 p (List.mem_filter.1 hp).1⟩ fun p hp => ?_
      obtain ⟨hp, hn⟩ := List.mem_filter.1 hp
      have := hc p hp
      simp only [here, Bool.not_eq_true', decide_eq_false_iff_not] at hn
      omega
    have h2 : (M.filter here).length ≤ (mt l tol (sideL l 1 (k + 1 : Nat)) (sideL l 2 (k + 1 : Nat))).length := by
      refine mt_max l tol _ _ _ _ (Nat.le_refl _) (side_inc _ _ _) (side_inc _ _ _) ⟨h.1.sublist (List.filter_sublist.map _), h.2.1.sublist (List.filter_sublist.map _), fun p hp => ?_⟩
      obtain ⟨hp, hn⟩ := List.mem_filter.1 hp
      simp only [here, decide_eq_true_eq] at hn
      obtain ⟨a1, a2, a3, a4, a5, a6⟩ := h.2.2 p hp
      exact ⟨mem_side.2 ⟨a1, a3, hn⟩, mem_side.2 ⟨a2, a4, by rw [← a5]; exact hn⟩, a6⟩
    omega
/-- no pairing has more pairs than match makes -/
theorem match_max {l : List T} (hv : VL l) {tol : Int} {M : List (Nat × Nat)} (h : PairsOK l tol M) : M.length ≤ (matchL l tol).length :=
  mc_max l tol 9 M h fun p hp => by
    have := hv.2.1 p.1 (h.2.2 p hp).1
    simp only [vt, decide_eq_true_eq] at this
    omega
theorem mt_mat (l : List T) (tol : Int) : ∀ (n : Nat) (xs ys : List Nat), xs.length + ys.length ≤ n → xs.Nodup → ys.Nodup → Mat l tol xs ys (mt l tol xs ys)
  | n, [], ys, h, _, _ => by rw [mt_nil1]; exact ⟨by simp, by simp, fun p hp => by cases hp⟩
  | n, a :: xs, [], h, _, _ => by rw [mt_nil2]; exact ⟨by simp, by simp, fun p hp => by cases hp⟩
  | 0, a :: xs, b :: ys, h, _, _ => by simp at h
  | n + 1, a :: xs, b :: ys, h, hx, hy => by
    rw [mt_cons]
    simp only [List.length_cons] at h
    have hx' := List.nodup_cons.1 hx
    have hy' := List.nodup_cons.1 hy
    split
    · rename_i hc
      obtain ⟨m1, m2, m3⟩ := mt_mat l tol n xs ys (by omega) hx'.2 hy'.2
      refine ⟨?_, ?_, fun p hp => ?_⟩
      · simp only [List.map_cons, List.nodup_cons, List.mem_map, not_exists, not_and]
        exact ⟨fun q hq e => hx'.1 (e ▸ (m3 q hq).1), m1⟩
      · simp only [List.map_cons, List.nodup_cons, List.mem_map, not_exists, not_and]
        exact ⟨fun q hq e => hy'.1 (e ▸ (m3 q hq).2.1), m2⟩
      · rcases List.mem_cons.1 hp with rfl | hp
        · exact ⟨by simp, by simp, hc⟩
        · obtain ⟨q1, q2, q3⟩ := m3 p hp
          exact ⟨List.mem_cons_of_mem _ q1, List.mem_cons_of_mem _ q2, q3⟩
    · split
      · obtain ⟨m1, m2, m3⟩ := mt_mat l tol n xs (b :: ys) (by simp only [List.length_cons]; omega) hx'.2 hy
        exact ⟨m1, m2, fun p hp => ⟨List.mem_cons_of_mem _ (m3 p hp).1, (m3 p hp).2⟩⟩
      · obtain ⟨m1, m2, m3⟩ := mt_mat l tol n (a :: xs) ys (by simp only [List.length_cons]; omega) hx hy'.2
        exact ⟨m1, m2, fun p hp => ⟨(m3 p hp).1, List.mem_cons_of_mem _ (m3 p hp).2.1, (m3 p hp).2.2⟩⟩
theorem mc_ok (l : List T) (tol : Int) : ∀ k, PairsOK l tol (mc l tol k) ∧ ∀ p ∈ mc l tol k, (l.getD p.1 T0).col ≤ k
  | 0 => ⟨⟨by simp [mc], by simp [mc], fun p hp => by simp [mc] at hp⟩, fun p hp => by simp [mc] at hp⟩
  | k + 1 => by
    obtain ⟨⟨h1, h2, h3⟩, h4⟩ := mc_ok l tol k
    obtain ⟨m1, m2, m3⟩ := mt_mat l tol _ _ _ (Nat.le_refl _) (side_nodup l 1 (k + 1 : Nat)) (side_nodup l 2 (k + 1 : Nat))
    have m4 : ∀ p ∈ mt l tol (sideL l 1 (k + 1 : Nat)) (sideL l 2 (k + 1 : Nat)), (l.getD p.1 T0).col = ((k + 1 : Nat) : Int) ∧ (l.getD p.2 T0).col = ((k + 1 : Nat) : Int) := fun p hp => ⟨(mem_side.1 (m3 p hp).1).2.2, (mem_side.1 (m3 p hp).2.1).2.2⟩
    rw [mc_succ]
    refine ⟨⟨?_, ?_, fun p hp => ?_⟩, fun p hp => ?_⟩
    · rw [List.map_append, List.nodup_append]
      refine ⟨h1, m1, fun a ha b hb e => ?_⟩
      obtain ⟨p, hp, rfl⟩ := List.mem_map.1 ha
      obtain ⟨q, hq, rfl⟩ := List.mem_map.1 hb
      have := h4 p hp
      have := (m4 q hq).1
      rw [← e] at this
      omega
    · rw [List.map_append, List.nodup_append]
      refine ⟨h2, m2, fun a ha b hb e => ?_⟩
      obtain ⟨p, hp, rfl⟩ := List.mem_map.1 ha
      obtain ⟨q, hq, rfl⟩ := List.mem_map.1 hb
      have h5 := h4 p hp
      rw [(h3 p hp).2.2.2.2.1] at h5
      have := (m4 q hq).2
      rw [← e] at this
      omega
    · rcases List.mem_append.1 hp with hp | hp
      · exact h3 p hp
      · have a := mem_side.1 (m3 p hp).1
        have b := mem_side.1 (m3 p hp).2.1
        exact ⟨a.1, b.1, a.2.1, b.2.1, by rw [a.2.2, b.2.2], (m3 p hp).2.2⟩
    · rcases List.mem_append.1 hp with hp | hp
      · have := h4 p hp; omega
      · have := (m4 p hp).1; omega
theorem match_ok (l : List T) (tol : Int) : PairsOK l tol (matchL l tol) := (mc_ok l tol 9).1
end Go.Proofs.Ytbhkbaapfioijaa
set_option linter.unusedVariables false
set_option linter.unusedSimpArgs false
namespace Go.Proofs.Ytbhkbaapfioijaa
open Go Go.Am Go.Proofs Go.Sort
/-! ### TempleMore: plain -/
theorem nodup_map {f : Nat → Nat} {A : List Nat} (h : A.Nodup) (hi : ∀ x ∈ A, ∀ y ∈ A, f x = f y → x = y) : (A.map f).Nodup := by
  induction A with
  | nil => simp
  | cons a A ih =>
    have h' := List.nodup_cons.1 h
    simp only [List.map_cons, List.nodup_cons, List.mem_map, not_exists, not_and]
    exact ⟨fun x hx e => h'.1 (hi x (by simp [hx]) a (by simp) e ▸ hx), ih h'.2 fun x hx y hy => hi x (by simp [hx]) y (by simp [hy])⟩
end Go.Proofs.Ytbhkbaapfioijaa
set_option linter.unusedVariables false
set_option linter.unusedSimpArgs false
namespace Go.Proofs.Ytbhkbaapfioijaa
open Go Go.Am Go.Proofs Go.Sort
theorem mc_len (l : List T) (tol : Int) : ∀ k, (mc l tol k).length ≤ k * l.length
  | 0 => by simp [mc]
  | k + 1 => by
    rw [mc_succ, List.length_append, Nat.succ_mul]
    have := mc_len l tol k
    have := mt_len l tol _ (sideL l 1 (k + 1 : Nat)) (sideL l 2 (k + 1 : Nat)) (Nat.le_refl _)
    have := sideL_len l 1 (k + 1 : Nat)
    omega
end Go.Proofs.Ytbhkbaapfioijaa
set_option linter.unusedVariables false
set_option linter.unusedSimpArgs false
namespace Go.Proofs.Ytbhkbaapfioijaa
open Go Go.Am Go.Proofs Go.Sort
def rng (n : Nat) (p : Int × Int) : Prop := 0 ≤ p.1 ∧ p.1 < n ∧ 0 ≤ p.2 ∧ p.2 < n
end Go.Proofs.Ytbhkbaapfioijaa
set_option linter.unusedVariables false
set_option linter.unusedSimpArgs false
namespace Go.Proofs.Ytbhkbaapfioijaa
open Go Go.Am Go.Proofs Go.Sort
theorem getD_set (us : List Bool) (a i : Nat) (ha : a < us.length) : (us.set a true).getD i false = (decide (i = a) || us.getD i false) := by
  rw [List.getD_eq_getElem?_getD, List.getElem?_set]
  by_cases h : a = i
  · subst h; simp [ha]
  · rw [if_neg h, decide_eq_false (fun e => h e.symm), Bool.false_or, List.getD_eq_getElem?_getD]
end Go.Proofs.Ytbhkbaapfioijaa
set_option linter.unusedVariables false
set_option linter.unusedSimpArgs false
namespace Go.Proofs.Ytbhkbaapfioijaa
open Go Go.Am Go.Proofs Go.Sort
/-! ### Rest -/
/-- is i in one of the first k pairs? -/
def inP (M : List (Nat × Nat)) (k i : Nat) : Bool := (M.take k).any fun p => p.1 == i || p.2 == i
theorem inP_succ {M : List (Nat × Nat)} {k : Nat} (h : k < M.length) (i : Nat) : inP M (k + 1) i = (inP M k i || ((M.getD k (0, 0)).1 == i || (M.getD k (0, 0)).2 == i)) := by
  unfold inP
  rw [List.take_succ_eq_append_getElem h, List.any_append]
  simp [h]
def rst (l : List T) (M : List (Nat × Nat)) (k : Nat) : List Nat := (List.range k).filter fun i => !inP M M.length i
theorem rst_succ (l : List T) (M : List (Nat × Nat)) (k : Nat) : rst l M (k + 1) = if inP M M.length k = false then rst l M k ++ [k] else rst l M k := by
  unfold rst
  rw [List.range_succ, List.filter_append]
  cases h : inP M M.length k <;> simp [h]
theorem rst_len (l : List T) (M : List (Nat × Nat)) (k : Nat) : (rst l M k).length ≤ k := Nat.le_trans (List.length_filter_le _ _) (by simp)
noncomputable def resR (l : List T) (tol : Int) : List Nat := if asked l tol = 0 then rst l (matchL l tol) l.length else []
theorem pc30 (l : List T) (hl : l.length ≤ 9223372036854775807) (tol : Int) : PC Try.prog 30 [vT l, .i .i64 tol] (.tu [.vs (resR l tol).length (nl (resR l tol)), .i .i64 (asked l tol)]) := by
  refine pc_fn fn30 (by simp only [AV.plains, AV.plain, il_plain, bl_plain, Bool.and_true, Bool.true_and, Bool.and_self, flT_plain, nl_plain]) (by simp only [AV.plains, AV.plain, il_plain, bl_plain, Bool.and_true, Bool.true_and, Bool.and_self, flT_plain, nl_plain]) (Nat.le_of_ble_eq_true rfl) ?_
  rw [initSt2]
  have q := pc17 l hl tol
  unfold matR at q
  unfold resR
  by_cases h0 : asked l tol = 0
  · have hv := (asked_ok h0).1
    have hl6 := hv.len
    rw [if_pos h0] at q ⊢
    rw [h0] at q ⊢
    obtain ⟨_, _, ok3⟩ := match_ok l tol
    have hA : (matchL l tol).length ≤ 9 * l.length := mc_len l tol 9
    generalize matchL l tol = M at q ok3 hA ⊢
    repeat' first
      | with_reducible refine k_seq ?_
      | with_reducible refine k_skip ?_
      | with_reducible refine k_blkS ?_
      | with_reducible refine k_blkR ?_
      | with_reducible refine k_blkC ?_
      | with_reducible refine k_blkH ?_
      | with_reducible refine k_blkB ?_
      | with_reducible refine k_blkK ?_
      | with_reducible refine k_blkE ?_
      | with_reducible refine k_reg ?_
      | with_reducible refine k_head (by with_unfolding_all rfl) ?_
      | with_reducible refine k_headS ?_
      | (with_reducible refine SepK.mk ?_ ?_; (refine sepQ_P ?_; simp [sepQ, sepG, AOp.late, AOp.free, AOp.xs, AOp.isAl, tokNe, AV.tok, stS_get, strip, AX.val, c30r0, c30r1, c30r2, c30r3, c30r4, c30r5, c30r6, c30r7, c30r8, c30r9, c30r11, c30r12, c30r13, c30r14, c30r15, c30r16, c30r17, c30r19, GA]; try omega))
      | with_reducible refine r_done ?_
      | with_reducible refine hr_done ?_
      | with_reducible refine s_go (by simp (disch := omega) only [c30r0, c30r1, c30r2, c30r3, c30r4, c30r5, c30r6, c30r7, c30r8, c30r9, c30r11, c30r12, c30r13, c30r14, c30r15, c30r16, c30r17, c30r19, EV0, EV1, EV2, EV3, EV4, EV5, EV6, EV7, EV8, VALS, plug, ite_same, decide_true, decide_false, eq_self, ↓reduceIte, reduceCtorEq, Nat.reduceAdd, Nat.reduceEqDiff, Nat.reduceLT, Nat.reduceLeDiff, Nat.reduceMul, Nat.reduceSub, Nat.reduceDiv, Int.reduceToNat, Int.reduceAdd, Int.reduceSub, Int.reduceMul, Int.reduceNeg, Int.reduceEq, Int.reduceLT, Int.reduceLE]; with_reducible rfl) ?_
      | with_reducible refine h_go (by with_unfolding_all rfl) (by simp (disch := omega) only [c30r0, c30r1, c30r2, c30r3, c30r4, c30r5, c30r6, c30r7, c30r8, c30r9, c30r11, c30r12, c30r13, c30r14, c30r15, c30r16, c30r17, c30r19, EV0, EV1, EV2, EV3, EV4, EV5, EV6, EV7, EV8, VALS, plug, ite_same, decide_true, decide_false, eq_self, ↓reduceIte, reduceCtorEq, Nat.reduceAdd, Nat.reduceEqDiff, Nat.reduceLT, Nat.reduceLeDiff, Nat.reduceMul, Nat.reduceSub, Nat.reduceDiv, Int.reduceToNat, Int.reduceAdd, Int.reduceSub, Int.reduceMul, Int.reduceNeg, Int.reduceEq, Int.reduceLT, Int.reduceLE]; with_reducible rfl) ?_
      | ((with_reducible refine chk_r ?_); refine r_callF (by simp only [CA, Nat.reduceEqDiff, ↓reduceIte]; rfl) (by exact rfl) (by simp only [CA, Nat.reduceEqDiff, ↓reduceIte]; rfl) rfl ?_)
      | ((with_reducible refine chk_h ?_); refine hr_callF (by simp only [CA, Nat.reduceEqDiff, ↓reduceIte]; rfl) (by exact rfl) (by simp only [CA, Nat.reduceEqDiff, ↓reduceIte]; rfl) rfl ?_)
      | ((with_reducible refine chk_r ?_); refine r_callP (by simp only [CA, Nat.reduceEqDiff, ↓reduceIte]; rfl) (by simp only [CA, Nat.reduceEqDiff, ↓reduceIte]; rfl) (by first | exact q _) rfl ?_)
      | ((with_reducible refine chk_h ?_); refine hr_callP (by simp only [CA, Nat.reduceEqDiff, ↓reduceIte]; rfl) (by simp only [CA, Nat.reduceEqDiff, ↓reduceIte]; rfl) (by first | exact q _) rfl ?_)
      | ((with_reducible refine chk_h ?_); refine hr_callP1 (by simp only [CA, Nat.reduceEqDiff, ↓reduceIte]; rfl) (by simp only [CA, Nat.reduceEqDiff, ↓reduceIte]; rfl) (by simp (disch := omega) only [CA, Nat.reduceEqDiff, ↓reduceIte, firstTok_nil, firstTok_sl, firstTok_sl0, firstTok_i, firstTok_b, firstTok_ag, firstTok_p, firstTok_s]; rfl) (by first | exact q _) rfl ?_)
      | ((with_reducible refine chk_h ?_); refine hr_app (by simp (disch := omega) only [c30r0, c30r1, c30r2, c30r3, c30r4, c30r5, c30r6, c30r7, c30r8, c30r9, c30r11, c30r12, c30r13, c30r14, c30r15, c30r16, c30r17, c30r19, EV0, EV1, EV2, EV3, EV4, EV5, EV6, EV7, EV8, VALS, plug, ite_same, decide_true, decide_false, eq_self, ↓reduceIte, reduceCtorEq, Nat.reduceAdd, Nat.reduceEqDiff, Nat.reduceLT, Nat.reduceLeDiff, Nat.reduceMul, Nat.reduceSub, Nat.reduceDiv, Int.reduceToNat, Int.reduceAdd, Int.reduceSub, Int.reduceMul, Int.reduceNeg, Int.reduceEq, Int.reduceLT, Int.reduceLE]; with_reducible rfl) rfl ?_)
      | (with_reducible refine k_condP (by simp only [GA, Nat.reduceEqDiff, ↓reduceIte]; rfl) (by first | (simp only [BO]; rfl) | rfl) (fun ht => ?_) (fun ht => ?_) <;> try (first | exact False.elim ht | exact absurd rfl ht | exact absurd trivial ht | exact Bool.noConfusion ht))
      | (with_reducible refine k_ret ?_; repeat with_reducible (first | refine ret_thru ?_ | refine ret_blk ?_ | refine fin ?_))
      | (with_reducible refine k_exit ?_; repeat with_reducible (first | refine thru ?_ | refine out_blk ?_ | refine pass (by decide) ?_))
      | (refine post1 ?_; simp only [GA, Nat.reduceEqDiff, ↓reduceIte])
      | (refine post2 ?_; simp only [GA, Nat.reduceEqDiff, ↓reduceIte])
      | (refine post3 ?_; simp only [GA, Nat.reduceEqDiff, ↓reduceIte])
      | (refine postc (by simp only [GA, Nat.reduceEqDiff, ↓reduceIte]; rfl) (by simp (disch := omega) only [c30r0, c30r1, c30r2, c30r3, c30r4, c30r5, c30r6, c30r7, c30r8, c30r9, c30r11, c30r12, c30r13, c30r14, c30r15, c30r16, c30r17, c30r19, EV0, EV1, EV2, EV3, EV4, EV5, EV6, EV7, EV8, VALS, plug, ite_same, decide_true, decide_false, eq_self, ↓reduceIte, reduceCtorEq, Nat.reduceAdd, Nat.reduceEqDiff, Nat.reduceLT, Nat.reduceLeDiff, Nat.reduceMul, Nat.reduceSub, Nat.reduceDiv, Int.reduceToNat, Int.reduceAdd, Int.reduceSub, Int.reduceMul, Int.reduceNeg, Int.reduceEq, Int.reduceLT, Int.reduceLE]; rfl) ?_)
      | refine post0 ?_
    refine k_blk (k_loopS (X := Nat × List Bool) [8, 26, 27, 28] M.length (fun k x => [(8, .sl x.1 0 l.length 1), (26, vP M), (27, .i .i64 M.length), (28, .i .i64 (k : Int))])
      (fun k x h => x.1 ≠ 0 ∧ h.m x.1 = some (.cells true (bl x.2)) ∧ x.2.length = l.length ∧ ∀ i, i < l.length → x.2.getD i false = inP M k i) (_, List.replicate l.length false) (by simp only [Am.keep, List.map_cons, List.map_nil, GA, Nat.reduceEqDiff, ↓reduceIte]; try rfl) ⟨by simp [H1, AH.bump, AH.set], by simp (disch := omega) only [bl_rep, c30r0, c30r1, c30r2, c30r3, c30r4, c30r5, c30r6, c30r7, c30r8, c30r9, c30r11, c30r12, c30r13, c30r14, c30r15, c30r16, c30r17, c30r19, EV0, EV1, EV2, EV3, EV4, EV5, EV6, EV7, EV8, VALS, plug, ite_same, decide_true, decide_false, eq_self, ↓reduceIte, reduceCtorEq, Nat.reduceAdd, Nat.reduceEqDiff, Nat.reduceLT, Nat.reduceLeDiff, Nat.reduceMul, Nat.reduceSub, Nat.reduceDiv, Int.reduceToNat, Int.reduceAdd, Int.reduceSub, Int.reduceMul, Int.reduceNeg, Int.reduceEq, Int.reduceLT, Int.reduceLE] <;> rfl, by simp, fun i hi => by simp [hi, inP]⟩ ?_)
    rintro k ⟨x, us⟩ h hk ⟨hx, hm, hu, hf⟩ ok pos
    simp only at hx hm hu hf ⊢
    have htk := ok.m hm
    by_cases hlt : k < M.length
    · have hlt' : (k : Int) < M.length := by omega
      have rP := rdP hlt
      have hin : M.getD k (0, 0) ∈ M := by simp [List.getD_eq_getElem?_getD, hlt]
      obtain ⟨p1, p2, _⟩ := ok3 _ hin
      have is := inP_succ hlt
      generalize M.getD k (0, 0) = p at rP hin p1 p2 is
      simp only [eP] at rP
      repeat' first
        | with_reducible refine k_seq ?_
        | with_reducible refine k_skip ?_
        | with_reducible refine k_blkS ?_
        | with_reducible refine k_blkR ?_
        | with_reducible refine k_blkC ?_
        | with_reducible refine k_blkH ?_
        | with_reducible refine k_blkB ?_
        | with_reducible refine k_blkK ?_
        | with_reducible refine k_blkE ?_
        | with_reducible refine k_reg ?_
        | with_reducible refine k_head (by with_unfolding_all rfl) ?_
        | with_reducible refine k_headS ?_
        | (with_reducible refine SepK.mk ?_ ?_; (refine sepQ_P ?_; simp [sepQ, sepG, AOp.late, AOp.free, AOp.xs, AOp.isAl, tokNe, AV.tok, stS_get, strip, AX.val, c30r0, c30r1, c30r2, c30r3, c30r4, c30r5, c30r6, c30r7, c30r8, c30r9, c30r11, c30r12, c30r13, c30r14, c30r15, c30r16, c30r17, c30r19, GA]; try omega))
        | with_reducible refine r_done ?_
        | with_reducible refine hr_done ?_
        | with_reducible refine s_go (by simp (disch := omega) only [rP, hlt', hm, row_m hm, read_row (row_m hm), hu, List.length_set, c30r0, c30r1, c30r2, c30r3, c30r4, c30r5, c30r6, c30r7, c30r8, c30r9, c30r11, c30r12, c30r13, c30r14, c30r15, c30r16, c30r17, c30r19, EV0, EV1, EV2, EV3, EV4, EV5, EV6, EV7, EV8, VALS, plug, ite_same, decide_true, decide_false, eq_self, ↓reduceIte, reduceCtorEq, Nat.reduceAdd, Nat.reduceEqDiff, Nat.reduceLT, Nat.reduceLeDiff, Nat.reduceMul, Nat.reduceSub, Nat.reduceDiv, Int.reduceToNat, Int.reduceAdd, Int.reduceSub, Int.reduceMul, Int.reduceNeg, Int.reduceEq, Int.reduceLT, Int.reduceLE]; with_reducible rfl) ?_
        | with_reducible refine h_go (by with_unfolding_all rfl) (by simp (disch := omega) only [rP, hlt', hm, row_m hm, read_row (row_m hm), hu, List.length_set, c30r0, c30r1, c30r2, c30r3, c30r4, c30r5, c30r6, c30r7, c30r8, c30r9, c30r11, c30r12, c30r13, c30r14, c30r15, c30r16, c30r17, c30r19, EV0, EV1, EV2, EV3, EV4, EV5, EV6, EV7, EV8, VALS, plug, ite_same, decide_true, decide_false, eq_self, ↓reduceIte, reduceCtorEq, Nat.reduceAdd, Nat.reduceEqDiff, Nat.reduceLT, Nat.reduceLeDiff, Nat.reduceMul, Nat.reduceSub, Nat.reduceDiv, Int.reduceToNat, Int.reduceAdd, Int.reduceSub, Int.reduceMul, Int.reduceNeg, Int.reduceEq, Int.reduceLT, Int.reduceLE]; with_reducible rfl) ?_
        | ((with_reducible refine chk_r ?_); refine r_callF (by simp only [CA, Nat.reduceEqDiff, ↓reduceIte]; rfl) (by exact rfl) (by simp only [CA, Nat.reduceEqDiff, ↓reduceIte]; rfl) rfl ?_)
        | ((with_reducible refine chk_h ?_); refine hr_callF (by simp only [CA, Nat.reduceEqDiff, ↓reduceIte]; rfl) (by exact rfl) (by simp only [CA, Nat.reduceEqDiff, ↓reduceIte]; rfl) rfl ?_)
        | ((with_reducible refine chk_h ?_); refine hr_app (by simp (disch := omega) only [rP, hlt', hm, row_m hm, read_row (row_m hm), hu, List.length_set, c30r0, c30r1, c30r2, c30r3, c30r4, c30r5, c30r6, c30r7, c30r8, c30r9, c30r11, c30r12, c30r13, c30r14, c30r15, c30r16, c30r17, c30r19, EV0, EV1, EV2, EV3, EV4, EV5, EV6, EV7, EV8, VALS, plug, ite_same, decide_true, decide_false, eq_self, ↓reduceIte, reduceCtorEq, Nat.reduceAdd, Nat.reduceEqDiff, Nat.reduceLT, Nat.reduceLeDiff, Nat.reduceMul, Nat.reduceSub, Nat.reduceDiv, Int.reduceToNat, Int.reduceAdd, Int.reduceSub, Int.reduceMul, Int.reduceNeg, Int.reduceEq, Int.reduceLT, Int.reduceLE]; with_reducible rfl) rfl ?_)
        | (with_reducible refine k_condP (by simp only [GA, Nat.reduceEqDiff, ↓reduceIte]; rfl) (by first | (simp only [BO]; rfl) | rfl) (fun ht => ?_) (fun ht => ?_) <;> try (first | exact False.elim ht | exact absurd rfl ht | exact absurd trivial ht | exact Bool.noConfusion ht))
        | (with_reducible refine k_ret ?_; repeat with_reducible (first | refine ret_thru ?_ | refine ret_blk ?_ | refine fin ?_))
        | (with_reducible refine k_exit ?_; repeat with_reducible (first | refine thru ?_ | refine out_blk ?_ | refine pass (by decide) ?_))
        | (refine post1 ?_; simp only [GA, Nat.reduceEqDiff, ↓reduceIte])
        | (refine post2 ?_; simp only [GA, Nat.reduceEqDiff, ↓reduceIte])
        | (refine post3 ?_; simp only [GA, Nat.reduceEqDiff, ↓reduceIte])
        | (refine postc (by simp only [GA, Nat.reduceEqDiff, ↓reduceIte]; rfl) (by simp (disch := omega) only [rP, hlt', hm, row_m hm, read_row (row_m hm), hu, List.length_set, c30r0, c30r1, c30r2, c30r3, c30r4, c30r5, c30r6, c30r7, c30r8, c30r9, c30r11, c30r12, c30r13, c30r14, c30r15, c30r16, c30r17, c30r19, EV0, EV1, EV2, EV3, EV4, EV5, EV6, EV7, EV8, VALS, plug, ite_same, decide_true, decide_false, eq_self, ↓reduceIte, reduceCtorEq, Nat.reduceAdd, Nat.reduceEqDiff, Nat.reduceLT, Nat.reduceLeDiff, Nat.reduceMul, Nat.reduceSub, Nat.reduceDiv, Int.reduceToNat, Int.reduceAdd, Int.reduceSub, Int.reduceMul, Int.reduceNeg, Int.reduceEq, Int.reduceLT, Int.reduceLE]; rfl) ?_)
        | refine post0 ?_
      refine ⟨hlt, ⟨x, (us.set p.1 true).set p.2 true⟩, (by simp only [Am.keep, List.map_cons, List.map_nil, GA, Nat.reduceEqDiff, ↓reduceIte]; try rfl), hx, by simp (disch := omega) only [hm, c30r0, c30r1, c30r2, c30r3, c30r4, c30r5, c30r6, c30r7, c30r8, c30r9, c30r11, c30r12, c30r13, c30r14, c30r15, c30r16, c30r17, c30r19, EV0, EV1, EV2, EV3, EV4, EV5, EV6, EV7, EV8, VALS, plug, ite_same, decide_true, decide_false, eq_self, ↓reduceIte, reduceCtorEq, Nat.reduceAdd, Nat.reduceEqDiff, Nat.reduceLT, Nat.reduceLeDiff, Nat.reduceMul, Nat.reduceSub, Nat.reduceDiv, Int.reduceToNat, Int.reduceAdd, Int.reduceSub, Int.reduceMul, Int.reduceNeg, Int.reduceEq, Int.reduceLT, Int.reduceLE] <;> rfl, by simp only [List.length_set]; exact hu, fun i hi => ?_⟩
      rw [getD_set _ _ _ (by rw [List.length_set]; omega), getD_set _ _ _ (by omega), hf i hi, is, Bool.eq_iff_iff]
      simp only [Bool.or_eq_true, decide_eq_true_eq, beq_iff_eq]
      constructor
      · rintro (e | e | e)
        · exact .inr (.inr e.symm)
        · exact .inr (.inl e.symm)
        · exact .inl e
      · rintro (e | e | e)
        · exact .inr (.inr e)
        · exact .inr (.inl e.symm)
        · exact .inl e.symm
    · obtain rfl : k = M.length := by omega
      have hlt' : ¬ (M.length : Int) < M.length := by omega
      repeat' first
        | with_reducible refine k_seq ?_
        | with_reducible refine k_skip ?_
        | with_reducible refine k_blkS ?_
        | with_reducible refine k_blkR ?_
        | with_reducible refine k_blkC ?_
        | with_reducible refine k_blkH ?_
        | with_reducible refine k_blkB ?_
        | with_reducible refine k_blkK ?_
        | with_reducible refine k_blkE ?_
        | with_reducible refine k_reg ?_
        | with_reducible refine k_head (by with_unfolding_all rfl) ?_
        | with_reducible refine k_headS ?_
        | (with_reducible refine SepK.mk ?_ ?_; (refine sepQ_P ?_; simp [sepQ, sepG, AOp.late, AOp.free, AOp.xs, AOp.isAl, tokNe, AV.tok, stS_get, strip, AX.val, c30r0, c30r1, c30r2, c30r3, c30r4, c30r5, c30r6, c30r7, c30r8, c30r9, c30r11, c30r12, c30r13, c30r14, c30r15, c30r16, c30r17, c30r19, GA]; try omega))
        | with_reducible refine r_done ?_
        | with_reducible refine hr_done ?_
        | with_reducible refine s_go (by simp (disch := omega) only [hlt', hm, c30r0, c30r1, c30r2, c30r3, c30r4, c30r5, c30r6, c30r7, c30r8, c30r9, c30r11, c30r12, c30r13, c30r14, c30r15, c30r16, c30r17, c30r19, EV0, EV1, EV2, EV3, EV4, EV5, EV6, EV7, EV8, VALS, plug, ite_same, decide_true, decide_false, eq_self, ↓reduceIte, reduceCtorEq, Nat.reduceAdd, Nat.reduceEqDiff, Nat.reduceLT, Nat.reduceLeDiff, Nat.reduceMul, Nat.reduceSub, Nat.reduceDiv, Int.reduceToNat, Int.reduceAdd, Int.reduceSub, Int.reduceMul, Int.reduceNeg, Int.reduceEq, Int.reduceLT, Int.reduceLE]; with_reducible rfl) ?_
        | with_reducible refine h_go (by with_unfolding_all rfl) (by simp (disch := omega) only [hlt', hm, c30r0, c30r1, c30r2, c30r3, c30r4, c30r5, c30r6, c30r7, c30r8, c30r9, c30r11, c30r12, c30r13, c30r14, c30r15, c30r16, c30r17, c30r19, EV0, EV1, EV2, EV3, EV4, EV5, EV6, EV7, EV8, VALS, plug, ite_same, decide_true, decide_false, eq_self, ↓reduceIte, reduceCtorEq, Nat.reduceAdd, Nat.reduceEqDiff, Nat.reduceLT, Nat.reduceLeDiff, Nat.reduceMul, Nat.reduceSub, Nat.reduceDiv, Int.reduceToNat, Int.reduceAdd, Int.reduceSub, Int.reduceMul, Int.reduceNeg, Int.reduceEq, Int.reduceLT, Int.reduceLE]; with_reducible rfl) ?_
        | ((with_reducible refine chk_r ?_); refine r_callF (by simp only [CA, Nat.reduceEqDiff, ↓reduceIte]; rfl) (by exact rfl) (by simp only [CA, Nat.reduceEqDiff, ↓reduceIte]; rfl) rfl ?_)
        | ((with_reducible refine chk_h ?_); refine hr_callF (by simp only [CA, Nat.reduceEqDiff, ↓reduceIte]; rfl) (by exact rfl) (by simp only [CA, Nat.reduceEqDiff, ↓reduceIte]; rfl) rfl ?_)
        | ((with_reducible refine chk_h ?_); refine hr_app (by simp (disch := omega) only [hlt', hm, c30r0, c30r1, c30r2, c30r3, c30r4, c30r5, c30r6, c30r7, c30r8, c30r9, c30r11, c30r12, c30r13, c30r14, c30r15, c30r16, c30r17, c30r19, EV0, EV1, EV2, EV3, EV4, EV5, EV6, EV7, EV8, VALS, plug, ite_same, decide_true, decide_false, eq_self, ↓reduceIte, reduceCtorEq, Nat.reduceAdd, Nat.reduceEqDiff, Nat.reduceLT, Nat.reduceLeDiff, Nat.reduceMul, Nat.reduceSub, Nat.reduceDiv, Int.reduceToNat, Int.reduceAdd, Int.reduceSub, Int.reduceMul, Int.reduceNeg, Int.reduceEq, Int.reduceLT, Int.reduceLE]; with_reducible rfl) rfl ?_)
        | (with_reducible refine k_condP (by simp only [GA, Nat.reduceEqDiff, ↓reduceIte]; rfl) (by first | (simp only [BO]; rfl) | rfl) (fun ht => ?_) (fun ht => ?_) <;> try (first | exact False.elim ht | exact absurd rfl ht | exact absurd trivial ht | exact Bool.noConfusion ht))
        | (with_reducible refine k_ret ?_; repeat with_reducible (first | refine ret_thru ?_ | refine ret_blk ?_ | refine fin ?_))
        | (with_reducible refine k_exit ?_; repeat with_reducible (first | refine thru ?_ | refine out_blk ?_ | refine pass (by decide) ?_))
        | (refine post1 ?_; simp only [GA, Nat.reduceEqDiff, ↓reduceIte])
        | (refine post2 ?_; simp only [GA, Nat.reduceEqDiff, ↓reduceIte])
        | (refine post3 ?_; simp only [GA, Nat.reduceEqDiff, ↓reduceIte])
        | (refine postc (by simp only [GA, Nat.reduceEqDiff, ↓reduceIte]; rfl) (by simp (disch := omega) only [hlt', hm, c30r0, c30r1, c30r2, c30r3, c30r4, c30r5, c30r6, c30r7, c30r8, c30r9, c30r11, c30r12, c30r13, c30r14, c30r15, c30r16, c30r17, c30r19, EV0, EV1, EV2, EV3, EV4, EV5, EV6, EV7, EV8, VALS, plug, ite_same, decide_true, decide_false, eq_self, ↓reduceIte, reduceCtorEq, Nat.reduceAdd, Nat.reduceEqDiff, Nat.reduceLT, Nat.reduceLeDiff, Nat.reduceMul, Nat.reduceSub, Nat.reduceDiv, Int.reduceToNat, Int.reduceAdd, Int.reduceSub, Int.reduceMul, Int.reduceNeg, Int.reduceEq, Int.reduceLT, Int.reduceLE]; rfl) ?_)
        | refine post0 ?_
      refine w_virt 1 11 rfl ?_
      refine k_blk (k_loopS (X := Nat) [11, 41, 42, 43] l.length (fun k y => [(11, .sl y 0 (rst l M k).length 1), (41, .sl x 0 l.length 1), (42, .i .i64 l.length), (43, .i .i64 (k : Int))])
        (fun k y h => y ≠ 0 ∧ y ≠ x ∧ h.m x = some (.cells true (bl us)) ∧ h.m y = some (.cells true (nl (rst l M k)))) _ (by simp only [Am.keep, List.map_cons, List.map_nil, GA, Nat.reduceEqDiff, ↓reduceIte]; try rfl) ⟨?_, ?_, by simp (disch := omega) only [hm, c30r0, c30r1, c30r2, c30r3, c30r4, c30r5, c30r6, c30r7, c30r8, c30r9, c30r11, c30r12, c30r13, c30r14, c30r15, c30r16, c30r17, c30r19, EV0, EV1, EV2, EV3, EV4, EV5, EV6, EV7, EV8, VALS, plug, ite_same, decide_true, decide_false, eq_self, ↓reduceIte, reduceCtorEq, Nat.reduceAdd, Nat.reduceEqDiff, Nat.reduceLT, Nat.reduceLeDiff, Nat.reduceMul, Nat.reduceSub, Nat.reduceDiv, Int.reduceToNat, Int.reduceAdd, Int.reduceSub, Int.reduceMul, Int.reduceNeg, Int.reduceEq, Int.reduceLT, Int.reduceLE] <;> rfl, by simp (disch := omega) only [c30r0, c30r1, c30r2, c30r3, c30r4, c30r5, c30r6, c30r7, c30r8, c30r9, c30r11, c30r12, c30r13, c30r14, c30r15, c30r16, c30r17, c30r19, EV0, EV1, EV2, EV3, EV4, EV5, EV6, EV7, EV8, VALS, plug, ite_same, decide_true, decide_false, eq_self, ↓reduceIte, reduceCtorEq, Nat.reduceAdd, Nat.reduceEqDiff, Nat.reduceLT, Nat.reduceLeDiff, Nat.reduceMul, Nat.reduceSub, Nat.reduceDiv, Int.reduceToNat, Int.reduceAdd, Int.reduceSub, Int.reduceMul, Int.reduceNeg, Int.reduceEq, Int.reduceLT, Int.reduceLE] <;> rfl⟩ ?_)
      · simp only [AH.bump_nx]; omega
      · simp only [AH.bump_nx]; omega
      rintro k y h hk ⟨hy, hyx, hm, hmy⟩ ok pos
      have hx' := ok.m hm
      have hy' := ok.m hmy
      have rl := rst_len l M k
      by_cases hlt : k < l.length
      · have hlt' : (k : Int) < l.length := by omega
        have hfk := hf k hlt
        have rs := rst_succ l M k
        repeat' first
          | with_reducible refine k_seq ?_
          | with_reducible refine k_skip ?_
          | with_reducible refine k_blkS ?_
          | with_reducible refine k_blkR ?_
          | with_reducible refine k_blkC ?_
          | with_reducible refine k_blkH ?_
          | with_reducible refine k_blkB ?_
          | with_reducible refine k_blkK ?_
          | with_reducible refine k_blkE ?_
          | with_reducible refine k_reg ?_
          | with_reducible refine k_head (by with_unfolding_all rfl) ?_
          | with_reducible refine k_headS ?_
          | (with_reducible refine SepK.mk ?_ ?_; (refine sepQ_P ?_; simp [sepQ, sepG, AOp.late, AOp.free, AOp.xs, AOp.isAl, tokNe, AV.tok, stS_get, strip, AX.val, c30r0, c30r1, c30r2, c30r3, c30r4, c30r5, c30r6, c30r7, c30r8, c30r9, c30r11, c30r12, c30r13, c30r14, c30r15, c30r16, c30r17, c30r19, GA]; try omega))
          | with_reducible refine r_done ?_
          | with_reducible refine hr_done ?_
          | with_reducible refine s_go (by simp (disch := omega) only [hlt', hm, hmy, row_m hm, read_row (row_m hm), hu, hfk, nl_len, nl_snoc, hy, c30r0, c30r1, c30r2, c30r3, c30r4, c30r5, c30r6, c30r7, c30r8, c30r9, c30r11, c30r12, c30r13, c30r14, c30r15, c30r16, c30r17, c30r19, EV0, EV1, EV2, EV3, EV4, EV5, EV6, EV7, EV8, VALS, plug, ite_same, decide_true, decide_false, eq_self, ↓reduceIte, reduceCtorEq, Nat.reduceAdd, Nat.reduceEqDiff, Nat.reduceLT, Nat.reduceLeDiff, Nat.reduceMul, Nat.reduceSub, Nat.reduceDiv, Int.reduceToNat, Int.reduceAdd, Int.reduceSub, Int.reduceMul, Int.reduceNeg, Int.reduceEq, Int.reduceLT, Int.reduceLE]; with_reducible rfl) ?_
          | with_reducible refine h_go (by with_unfolding_all rfl) (by simp (disch := omega) only [hlt', hm, hmy, row_m hm, read_row (row_m hm), hu, hfk, nl_len, nl_snoc, hy, c30r0, c30r1, c30r2, c30r3, c30r4, c30r5, c30r6, c30r7, c30r8, c30r9, c30r11, c30r12, c30r13, c30r14, c30r15, c30r16, c30r17, c30r19, EV0, EV1, EV2, EV3, EV4, EV5, EV6, EV7, EV8, VALS, plug, ite_same, decide_true, decide_false, eq_self, ↓reduceIte, reduceCtorEq, Nat.reduceAdd, Nat.reduceEqDiff, Nat.reduceLT, Nat.reduceLeDiff, Nat.reduceMul, Nat.reduceSub, Nat.reduceDiv, Int.reduceToNat, Int.reduceAdd, Int.reduceSub, Int.reduceMul, Int.reduceNeg, Int.reduceEq, Int.reduceLT, Int.reduceLE]; with_reducible rfl) ?_
          | ((with_reducible refine chk_r ?_); refine r_callF (by simp only [CA, Nat.reduceEqDiff, ↓reduceIte]; rfl) (by exact rfl) (by simp only [CA, Nat.reduceEqDiff, ↓reduceIte]; rfl) rfl ?_)
          | ((with_reducible refine chk_h ?_); refine hr_callF (by simp only [CA, Nat.reduceEqDiff, ↓reduceIte]; rfl) (by exact rfl) (by simp only [CA, Nat.reduceEqDiff, ↓reduceIte]; rfl) rfl ?_)
          | ((with_reducible refine chk_h ?_); refine hr_app (by simp (disch := omega) only [hlt', hm, hmy, row_m hm, read_row (row_m hm), hu, hfk, nl_len, nl_snoc, hy, c30r0, c30r1, c30r2, c30r3, c30r4, c30r5, c30r6, c30r7, c30r8, c30r9, c30r11, c30r12, c30r13, c30r14, c30r15, c30r16, c30r17, c30r19, EV0, EV1, EV2, EV3, EV4, EV5, EV6, EV7, EV8, VALS, plug, ite_same, decide_true, decide_false, eq_self, ↓reduceIte, reduceCtorEq, Nat.reduceAdd, Nat.reduceEqDiff, Nat.reduceLT, Nat.reduceLeDiff, Nat.reduceMul, Nat.reduceSub, Nat.reduceDiv, Int.reduceToNat, Int.reduceAdd, Int.reduceSub, Int.reduceMul, Int.reduceNeg, Int.reduceEq, Int.reduceLT, Int.reduceLE]; with_reducible rfl) rfl ?_)
          | (with_reducible refine k_condP (by simp only [GA, Nat.reduceEqDiff, ↓reduceIte]; rfl) (by first | (simp only [BO]; rfl) | rfl) (fun ht => ?_) (fun ht => ?_) <;> try (first | exact False.elim ht | exact absurd rfl ht | exact absurd trivial ht | exact Bool.noConfusion ht))
          | (with_reducible refine k_ret ?_; repeat with_reducible (first | refine ret_thru ?_ | refine ret_blk ?_ | refine fin ?_))
          | (with_reducible refine k_exit ?_; repeat with_reducible (first | refine thru ?_ | refine out_blk ?_ | refine pass (by decide) ?_))
          | (refine post1 ?_; simp only [GA, Nat.reduceEqDiff, ↓reduceIte])
          | (refine post2 ?_; simp only [GA, Nat.reduceEqDiff, ↓reduceIte])
          | (refine post3 ?_; simp only [GA, Nat.reduceEqDiff, ↓reduceIte])
          | (refine postc (by simp only [GA, Nat.reduceEqDiff, ↓reduceIte]; rfl) (by simp (disch := omega) only [hlt', hm, hmy, row_m hm, read_row (row_m hm), hu, hfk, nl_len, nl_snoc, hy, c30r0, c30r1, c30r2, c30r3, c30r4, c30r5, c30r6, c30r7, c30r8, c30r9, c30r11, c30r12, c30r13, c30r14, c30r15, c30r16, c30r17, c30r19, EV0, EV1, EV2, EV3, EV4, EV5, EV6, EV7, EV8, VALS, plug, ite_same, decide_true, decide_false, eq_self, ↓reduceIte, reduceCtorEq, Nat.reduceAdd, Nat.reduceEqDiff, Nat.reduceLT, Nat.reduceLeDiff, Nat.reduceMul, Nat.reduceSub, Nat.reduceDiv, Int.reduceToNat, Int.reduceAdd, Int.reduceSub, Int.reduceMul, Int.reduceNeg, Int.reduceEq, Int.reduceLT, Int.reduceLE]; rfl) ?_)
          | refine post0 ?_
        · rw [if_pos ht] at rs
          rw [rs]
          refine ⟨hlt, ?tk, ?g1, ?g2, ?g3, ?g4, ?g5⟩
          case g1 =>
            simp only [Am.keep, List.map_cons, List.map_nil, GA, Nat.reduceEqDiff, ↓reduceIte, List.length_append, List.length_cons, List.length_nil, Nat.zero_add]
            rfl
          case g2 => omega
          case g3 => omega
          case g4 => simp (disch := omega) only [hm, c30r0, c30r1, c30r2, c30r3, c30r4, c30r5, c30r6, c30r7, c30r8, c30r9, c30r11, c30r12, c30r13, c30r14, c30r15, c30r16, c30r17, c30r19, EV0, EV1, EV2, EV3, EV4, EV5, EV6, EV7, EV8, VALS, plug, ite_same, decide_true, decide_false, eq_self, ↓reduceIte, reduceCtorEq, Nat.reduceAdd, Nat.reduceEqDiff, Nat.reduceLT, Nat.reduceLeDiff, Nat.reduceMul, Nat.reduceSub, Nat.reduceDiv, Int.reduceToNat, Int.reduceAdd, Int.reduceSub, Int.reduceMul, Int.reduceNeg, Int.reduceEq, Int.reduceLT, Int.reduceLE]
          case g5 => simp (disch := omega) only [c30r0, c30r1, c30r2, c30r3, c30r4, c30r5, c30r6, c30r7, c30r8, c30r9, c30r11, c30r12, c30r13, c30r14, c30r15, c30r16, c30r17, c30r19, EV0, EV1, EV2, EV3, EV4, EV5, EV6, EV7, EV8, VALS, plug, ite_same, decide_true, decide_false, eq_self, ↓reduceIte, reduceCtorEq, Nat.reduceAdd, Nat.reduceEqDiff, Nat.reduceLT, Nat.reduceLeDiff, Nat.reduceMul, Nat.reduceSub, Nat.reduceDiv, Int.reduceToNat, Int.reduceAdd, Int.reduceSub, Int.reduceMul, Int.reduceNeg, Int.reduceEq, Int.reduceLT, Int.reduceLE] <;> rfl
        · rw [if_neg ht] at rs
          rw [rs]
          exact ⟨hlt, y, (by simp only [Am.keep, List.map_cons, List.map_nil, GA, Nat.reduceEqDiff, ↓reduceIte]; try rfl), hy, hyx, by simp (disch := omega) only [hm, c30r0, c30r1, c30r2, c30r3, c30r4, c30r5, c30r6, c30r7, c30r8, c30r9, c30r11, c30r12, c30r13, c30r14, c30r15, c30r16, c30r17, c30r19, EV0, EV1, EV2, EV3, EV4, EV5, EV6, EV7, EV8, VALS, plug, ite_same, decide_true, decide_false, eq_self, ↓reduceIte, reduceCtorEq, Nat.reduceAdd, Nat.reduceEqDiff, Nat.reduceLT, Nat.reduceLeDiff, Nat.reduceMul, Nat.reduceSub, Nat.reduceDiv, Int.reduceToNat, Int.reduceAdd, Int.reduceSub, Int.reduceMul, Int.reduceNeg, Int.reduceEq, Int.reduceLT, Int.reduceLE], by simp (disch := omega) only [hmy, c30r0, c30r1, c30r2, c30r3, c30r4, c30r5, c30r6, c30r7, c30r8, c30r9, c30r11, c30r12, c30r13, c30r14, c30r15, c30r16, c30r17, c30r19, EV0, EV1, EV2, EV3, EV4, EV5, EV6, EV7, EV8, VALS, plug, ite_same, decide_true, decide_false, eq_self, ↓reduceIte, reduceCtorEq, Nat.reduceAdd, Nat.reduceEqDiff, Nat.reduceLT, Nat.reduceLeDiff, Nat.reduceMul, Nat.reduceSub, Nat.reduceDiv, Int.reduceToNat, Int.reduceAdd, Int.reduceSub, Int.reduceMul, Int.reduceNeg, Int.reduceEq, Int.reduceLT, Int.reduceLE]⟩
      · obtain rfl : k = l.length := by omega
        have hlt' : ¬ (l.length : Int) < l.length := by omega
        repeat' first
          | with_reducible refine k_seq ?_
          | with_reducible refine k_skip ?_
          | with_reducible refine k_blkS ?_
          | with_reducible refine k_blkR ?_
          | with_reducible refine k_blkC ?_
          | with_reducible refine k_blkH ?_
          | with_reducible refine k_blkB ?_
          | with_reducible refine k_blkK ?_
          | with_reducible refine k_blkE ?_
          | with_reducible refine k_reg ?_
          | with_reducible refine k_head (by with_unfolding_all rfl) ?_
          | with_reducible refine k_headS ?_
          | (with_reducible refine SepK.mk ?_ ?_; (refine sepQ_P ?_; simp [sepQ, sepG, AOp.late, AOp.free, AOp.xs, AOp.isAl, tokNe, AV.tok, stS_get, strip, AX.val, c30r0, c30r1, c30r2, c30r3, c30r4, c30r5, c30r6, c30r7, c30r8, c30r9, c30r11, c30r12, c30r13, c30r14, c30r15, c30r16, c30r17, c30r19, GA]; try omega))
          | with_reducible refine r_done ?_
          | with_reducible refine hr_done ?_
          | with_reducible refine s_go (by simp (disch := omega) only [hlt', c30r0, c30r1, c30r2, c30r3, c30r4, c30r5, c30r6, c30r7, c30r8, c30r9, c30r11, c30r12, c30r13, c30r14, c30r15, c30r16, c30r17, c30r19, EV0, EV1, EV2, EV3, EV4, EV5, EV6, EV7, EV8, VALS, plug, ite_same, decide_true, decide_false, eq_self, ↓reduceIte, reduceCtorEq, Nat.reduceAdd, Nat.reduceEqDiff, Nat.reduceLT, Nat.reduceLeDiff, Nat.reduceMul, Nat.reduceSub, Nat.reduceDiv, Int.reduceToNat, Int.reduceAdd, Int.reduceSub, Int.reduceMul, Int.reduceNeg, Int.reduceEq, Int.reduceLT, Int.reduceLE]; with_reducible rfl) ?_
          | with_reducible refine h_go (by with_unfolding_all rfl) (by simp (disch := omega) only [hlt', c30r0, c30r1, c30r2, c30r3, c30r4, c30r5, c30r6, c30r7, c30r8, c30r9, c30r11, c30r12, c30r13, c30r14, c30r15, c30r16, c30r17, c30r19, EV0, EV1, EV2, EV3, EV4, EV5, EV6, EV7, EV8, VALS, plug, ite_same, decide_true, decide_false, eq_self, ↓reduceIte, reduceCtorEq, Nat.reduceAdd, Nat.reduceEqDiff, Nat.reduceLT, Nat.reduceLeDiff, Nat.reduceMul, Nat.reduceSub, Nat.reduceDiv, Int.reduceToNat, Int.reduceAdd, Int.reduceSub, Int.reduceMul, Int.reduceNeg, Int.reduceEq, Int.reduceLT, Int.reduceLE]; with_reducible rfl) ?_
          | ((with_reducible refine chk_r ?_); refine r_callF (by simp only [CA, Nat.reduceEqDiff, ↓reduceIte]; rfl) (by exact rfl) (by simp only [CA, Nat.reduceEqDiff, ↓reduceIte]; rfl) rfl ?_)
          | ((with_reducible refine chk_h ?_); refine hr_callF (by simp only [CA, Nat.reduceEqDiff, ↓reduceIte]; rfl) (by exact rfl) (by simp only [CA, Nat.reduceEqDiff, ↓reduceIte]; rfl) rfl ?_)
          | ((with_reducible refine chk_h ?_); refine hr_app (by simp (disch := omega) only [hlt', c30r0, c30r1, c30r2, c30r3, c30r4, c30r5, c30r6, c30r7, c30r8, c30r9, c30r11, c30r12, c30r13, c30r14, c30r15, c30r16, c30r17, c30r19, EV0, EV1, EV2, EV3, EV4, EV5, EV6, EV7, EV8, VALS, plug, ite_same, decide_true, decide_false, eq_self, ↓reduceIte, reduceCtorEq, Nat.reduceAdd, Nat.reduceEqDiff, Nat.reduceLT, Nat.reduceLeDiff, Nat.reduceMul, Nat.reduceSub, Nat.reduceDiv, Int.reduceToNat, Int.reduceAdd, Int.reduceSub, Int.reduceMul, Int.reduceNeg, Int.reduceEq, Int.reduceLT, Int.reduceLE]; with_reducible rfl) rfl ?_)
          | (with_reducible refine k_condP (by simp only [GA, Nat.reduceEqDiff, ↓reduceIte]; rfl) (by first | (simp only [BO]; rfl) | rfl) (fun ht => ?_) (fun ht => ?_) <;> try (first | exact False.elim ht | exact absurd rfl ht | exact absurd trivial ht | exact Bool.noConfusion ht))
          | (with_reducible refine k_ret ?_; repeat with_reducible (first | refine ret_thru ?_ | refine ret_blk ?_ | refine fin ?_))
          | (with_reducible refine k_exit ?_; repeat with_reducible (first | refine thru ?_ | refine out_blk ?_ | refine pass (by decide) ?_))
          | (refine post1 ?_; simp only [GA, Nat.reduceEqDiff, ↓reduceIte])
          | (refine post2 ?_; simp only [GA, Nat.reduceEqDiff, ↓reduceIte])
          | (refine post3 ?_; simp only [GA, Nat.reduceEqDiff, ↓reduceIte])
          | (refine postc (by simp only [GA, Nat.reduceEqDiff, ↓reduceIte]; rfl) (by simp (disch := omega) only [hlt', c30r0, c30r1, c30r2, c30r3, c30r4, c30r5, c30r6, c30r7, c30r8, c30r9, c30r11, c30r12, c30r13, c30r14, c30r15, c30r16, c30r17, c30r19, EV0, EV1, EV2, EV3, EV4, EV5, EV6, EV7, EV8, VALS, plug, ite_same, decide_true, decide_false, eq_self, ↓reduceIte, reduceCtorEq, Nat.reduceAdd, Nat.reduceEqDiff, Nat.reduceLT, Nat.reduceLeDiff, Nat.reduceMul, Nat.reduceSub, Nat.reduceDiv, Int.reduceToNat, Int.reduceAdd, Int.reduceSub, Int.reduceMul, Int.reduceNeg, Int.reduceEq, Int.reduceLT, Int.reduceLE]; rfl) ?_)
          | refine post0 ?_
        exact ends_sl2 (k := 1) hmy (by rw [nl_len, Nat.mul_one])
  · rw [if_neg h0] at q ⊢
    generalize asked l tol = A at q h0 ⊢
    repeat' first
      | with_reducible refine k_seq ?_
      | with_reducible refine k_skip ?_
      | with_reducible refine k_blkS ?_
      | with_reducible refine k_blkR ?_
      | with_reducible refine k_blkC ?_
      | with_reducible refine k_blkH ?_
      | with_reducible refine k_blkB ?_
      | with_reducible refine k_blkK ?_
      | with_reducible refine k_blkE ?_
      | with_reducible refine k_reg ?_
      | with_reducible refine k_head (by with_unfolding_all rfl) ?_
      | with_reducible refine k_headS ?_
      | (with_reducible refine SepK.mk ?_ ?_; (refine sepQ_P ?_; simp [sepQ, sepG, AOp.late, AOp.free, AOp.xs, AOp.isAl, tokNe, AV.tok, stS_get, strip, AX.val, c30r0, c30r1, c30r2, c30r3, c30r4, c30r5, c30r6, c30r7, c30r8, c30r9, c30r11, c30r12, c30r13, c30r14, c30r15, c30r16, c30r17, c30r19, GA]; try omega))
      | with_reducible refine r_done ?_
      | with_reducible refine hr_done ?_
      | with_reducible refine s_go (by simp (disch := omega) only [h0, c30r0, c30r1, c30r2, c30r3, c30r4, c30r5, c30r6, c30r7, c30r8, c30r9, c30r11, c30r12, c30r13, c30r14, c30r15, c30r16, c30r17, c30r19, EV0, EV1, EV2, EV3, EV4, EV5, EV6, EV7, EV8, VALS, plug, ite_same, decide_true, decide_false, eq_self, ↓reduceIte, reduceCtorEq, Nat.reduceAdd, Nat.reduceEqDiff, Nat.reduceLT, Nat.reduceLeDiff, Nat.reduceMul, Nat.reduceSub, Nat.reduceDiv, Int.reduceToNat, Int.reduceAdd, Int.reduceSub, Int.reduceMul, Int.reduceNeg, Int.reduceEq, Int.reduceLT, Int.reduceLE]; with_reducible rfl) ?_
      | with_reducible refine h_go (by with_unfolding_all rfl) (by simp (disch := omega) only [h0, c30r0, c30r1, c30r2, c30r3, c30r4, c30r5, c30r6, c30r7, c30r8, c30r9, c30r11, c30r12, c30r13, c30r14, c30r15, c30r16, c30r17, c30r19, EV0, EV1, EV2, EV3, EV4, EV5, EV6, EV7, EV8, VALS, plug, ite_same, decide_true, decide_false, eq_self, ↓reduceIte, reduceCtorEq, Nat.reduceAdd, Nat.reduceEqDiff, Nat.reduceLT, Nat.reduceLeDiff, Nat.reduceMul, Nat.reduceSub, Nat.reduceDiv, Int.reduceToNat, Int.reduceAdd, Int.reduceSub, Int.reduceMul, Int.reduceNeg, Int.reduceEq, Int.reduceLT, Int.reduceLE]; with_reducible rfl) ?_
      | ((with_reducible refine chk_r ?_); refine r_callF (by simp only [CA, Nat.reduceEqDiff, ↓reduceIte]; rfl) (by exact rfl) (by simp only [CA, Nat.reduceEqDiff, ↓reduceIte]; rfl) rfl ?_)
      | ((with_reducible refine chk_h ?_); refine hr_callF (by simp only [CA, Nat.reduceEqDiff, ↓reduceIte]; rfl) (by exact rfl) (by simp only [CA, Nat.reduceEqDiff, ↓reduceIte]; rfl) rfl ?_)
      | ((with_reducible refine chk_r ?_); refine r_callP (by simp only [CA, Nat.reduceEqDiff, ↓reduceIte]; rfl) (by simp only [CA, Nat.reduceEqDiff, ↓reduceIte]; rfl) (by first | exact q _) rfl ?_)
      | ((with_reducible refine chk_h ?_); refine hr_callP (by simp only [CA, Nat.reduceEqDiff, ↓reduceIte]; rfl) (by simp only [CA, Nat.reduceEqDiff, ↓reduceIte]; rfl) (by first | exact q _) rfl ?_)
      | ((with_reducible refine chk_h ?_); refine hr_callP1 (by simp only [CA, Nat.reduceEqDiff, ↓reduceIte]; rfl) (by simp only [CA, Nat.reduceEqDiff, ↓reduceIte]; rfl) (by simp (disch := omega) only [CA, Nat.reduceEqDiff, ↓reduceIte, firstTok_nil, firstTok_sl, firstTok_sl0, firstTok_i, firstTok_b, firstTok_ag, firstTok_p, firstTok_s]; rfl) (by first | exact q _) rfl ?_)
      | ((with_reducible refine chk_h ?_); refine hr_app (by simp (disch := omega) only [h0, c30r0, c30r1, c30r2, c30r3, c30r4, c30r5, c30r6, c30r7, c30r8, c30r9, c30r11, c30r12, c30r13, c30r14, c30r15, c30r16, c30r17, c30r19, EV0, EV1, EV2, EV3, EV4, EV5, EV6, EV7, EV8, VALS, plug, ite_same, decide_true, decide_false, eq_self, ↓reduceIte, reduceCtorEq, Nat.reduceAdd, Nat.reduceEqDiff, Nat.reduceLT, Nat.reduceLeDiff, Nat.reduceMul, Nat.reduceSub, Nat.reduceDiv, Int.reduceToNat, Int.reduceAdd, Int.reduceSub, Int.reduceMul, Int.reduceNeg, Int.reduceEq, Int.reduceLT, Int.reduceLE]; with_reducible rfl) rfl ?_)
      | (with_reducible refine k_condP (by simp only [GA, Nat.reduceEqDiff, ↓reduceIte]; rfl) (by first | (simp only [BO]; rfl) | rfl) (fun ht => ?_) (fun ht => ?_) <;> try (first | exact False.elim ht | exact absurd rfl ht | exact absurd trivial ht | exact Bool.noConfusion ht))
      | (with_reducible refine k_ret ?_; repeat with_reducible (first | refine ret_thru ?_ | refine ret_blk ?_ | refine fin ?_))
      | (with_reducible refine k_exit ?_; repeat with_reducible (first | refine thru ?_ | refine out_blk ?_ | refine pass (by decide) ?_))
      | (refine post1 ?_; simp only [GA, Nat.reduceEqDiff, ↓reduceIte])
      | (refine post2 ?_; simp only [GA, Nat.reduceEqDiff, ↓reduceIte])
      | (refine post3 ?_; simp only [GA, Nat.reduceEqDiff, ↓reduceIte])
      | (refine postc (by simp only [GA, Nat.reduceEqDiff, ↓reduceIte]; rfl) (by simp (disch := omega) only [h0, c30r0, c30r1, c30r2, c30r3, c30r4, c30r5, c30r6, c30r7, c30r8, c30r9, c30r11, c30r12, c30r13, c30r14, c30r15, c30r16, c30r17, c30r19, EV0, EV1, EV2, EV3, EV4, EV5, EV6, EV7, EV8, VALS, plug, ite_same, decide_true, decide_false, eq_self, ↓reduceIte, reduceCtorEq, Nat.reduceAdd, Nat.reduceEqDiff, Nat.reduceLT, Nat.reduceLeDiff, Nat.reduceMul, Nat.reduceSub, Nat.reduceDiv, Int.reduceToNat, Int.reduceAdd, Int.reduceSub, Int.reduceMul, Int.reduceNeg, Int.reduceEq, Int.reduceLT, Int.reduceLE]; rfl) ?_)
      | refine post0 ?_
    exact ends_nil2
end Go.Proofs.Ytbhkbaapfioijaa
set_option linter.unusedVariables false
set_option linter.unusedSimpArgs false
namespace Go.Proofs.Ytbhkbaapfioijaa
open Go Go.Am Go.Proofs Go.Sort
/-! ### The document's pairs: the least temple that is not gone -/
def lb (l : List T) (gs : List Bool) (s c : Int) : Nat → Int
  | 0 => -1
  | i + 1 => if (gs.getD i false = true ∨ ¬ (l.getD i T0).side = s) ∨ ¬ (l.getD i T0).col = c then lb l gs s c i
    else if (lb l gs s c i < 0 ∨ (l.getD i T0).len < (l.getD (lb l gs s c i).toNat T0).len) ∨ ((l.getD i T0).len = (l.getD (lb l gs s c i).toNat T0).len ∧ (l.getD i T0).num < (l.getD (lb l gs s c i).toNat T0).num) then (i : Int) else lb l gs s c i
theorem lb_range (l : List T) (gs : List Bool) (s c : Int) : ∀ k, -1 ≤ lb l gs s c k ∧ lb l gs s c k < k
  | 0 => by simp [lb]
  | k + 1 => by
    have := lb_range l gs s c k
    simp only [lb]
    split
    · omega
    · split <;> omega
theorem pc75 (l : List T) (gs : List Bool) (hl : l.length ≤ 60) (hg : gs.length = l.length) (s c : Int) : PC Try.prog 75 [vT l, .vs l.length (bl gs), .i .i64 s, .i .i64 c] (.i .i64 (lb l gs s c l.length)) := by
  refine pc_fn fn75 (by simp only [AV.plains, AV.plain, il_plain, bl_plain, Bool.and_true, Bool.true_and, Bool.and_self, flT_plain, bl_plain]) (by simp only [AV.plains, AV.plain, il_plain, bl_plain, Bool.and_true, Bool.true_and, Bool.and_self, flT_plain, bl_plain]) (Nat.le_of_ble_eq_true rfl) ?_
  rw [initSt4]
  repeat' first
    | with_reducible refine k_seq ?_
    | with_reducible refine k_skip ?_
    | with_reducible refine k_blkS ?_
    | with_reducible refine k_blkR ?_
    | with_reducible refine k_blkC ?_
    | with_reducible refine k_blkH ?_
    | with_reducible refine k_blkB ?_
    | with_reducible refine k_blkK ?_
    | with_reducible refine k_blkE ?_
    | with_reducible refine k_reg ?_
    | with_reducible refine k_head (by with_unfolding_all rfl) ?_
    | with_reducible refine k_headS ?_
    | (with_reducible refine SepK.mk ?_ ?_; (refine sepQ_P ?_; simp [sepQ, sepG, AOp.late, AOp.free, AOp.xs, AOp.isAl, tokNe, AV.tok, stS_get, strip, AX.val, c75r0, c75r1, c75r2, c75r3, c75r4, c75r5, c75r6, c75r7, c75r9, GA]; try omega))
    | with_reducible refine r_done ?_
    | with_reducible refine hr_done ?_
    | with_reducible refine s_go (by simp (disch := omega) only [c75r0, c75r1, c75r2, c75r3, c75r4, c75r5, c75r6, c75r7, c75r9, EV0, EV1, EV2, EV3, EV4, EV5, EV6, EV7, EV8, VALS, plug, ite_same, decide_true, decide_false, eq_self, ↓reduceIte, reduceCtorEq, Nat.reduceAdd, Nat.reduceEqDiff, Nat.reduceLT, Nat.reduceLeDiff, Nat.reduceMul, Nat.reduceSub, Nat.reduceDiv, Int.reduceToNat, Int.reduceAdd, Int.reduceSub, Int.reduceMul, Int.reduceNeg, Int.reduceEq, Int.reduceLT, Int.reduceLE]; with_reducible rfl) ?_
    | with_reducible refine h_go (by with_unfolding_all rfl) (by simp (disch := omega) only [c75r0, c75r1, c75r2, c75r3, c75r4, c75r5, c75r6, c75r7, c75r9, EV0, EV1, EV2, EV3, EV4, EV5, EV6, EV7, EV8, VALS, plug, ite_same, decide_true, decide_false, eq_self, ↓reduceIte, reduceCtorEq, Nat.reduceAdd, Nat.reduceEqDiff, Nat.reduceLT, Nat.reduceLeDiff, Nat.reduceMul, Nat.reduceSub, Nat.reduceDiv, Int.reduceToNat, Int.reduceAdd, Int.reduceSub, Int.reduceMul, Int.reduceNeg, Int.reduceEq, Int.reduceLT, Int.reduceLE]; with_reducible rfl) ?_
    | ((with_reducible refine chk_r ?_); refine r_callF (by simp only [CA, Nat.reduceEqDiff, ↓reduceIte]; rfl) (by exact rfl) (by simp only [CA, Nat.reduceEqDiff, ↓reduceIte]; rfl) rfl ?_)
    | ((with_reducible refine chk_h ?_); refine hr_callF (by simp only [CA, Nat.reduceEqDiff, ↓reduceIte]; rfl) (by exact rfl) (by simp only [CA, Nat.reduceEqDiff, ↓reduceIte]; rfl) rfl ?_)
    | ((with_reducible refine chk_h ?_); refine hr_app (by simp (disch := omega) only [c75r0, c75r1, c75r2, c75r3, c75r4, c75r5, c75r6, c75r7, c75r9, EV0, EV1, EV2, EV3, EV4, EV5, EV6, EV7, EV8, VALS, plug, ite_same, decide_true, decide_false, eq_self, ↓reduceIte, reduceCtorEq, Nat.reduceAdd, Nat.reduceEqDiff, Nat.reduceLT, Nat.reduceLeDiff, Nat.reduceMul, Nat.reduceSub, Nat.reduceDiv, Int.reduceToNat, Int.reduceAdd, Int.reduceSub, Int.reduceMul, Int.reduceNeg, Int.reduceEq, Int.reduceLT, Int.reduceLE]; with_reducible rfl) rfl ?_)
    | (with_reducible refine k_condP (by simp only [GA, Nat.reduceEqDiff, ↓reduceIte]; rfl) (by first | (simp only [BO]; rfl) | rfl) (fun ht => ?_) (fun ht => ?_) <;> try (first | exact False.elim ht | exact absurd rfl ht | exact absurd trivial ht | exact Bool.noConfusion ht))
    | (with_reducible refine k_ret ?_; repeat with_reducible (first | refine ret_thru ?_ | refine ret_blk ?_ | refine fin ?_))
    | (with_reducible refine k_exit ?_; repeat with_reducible (first | refine thru ?_ | refine out_blk ?_ | refine pass (by decide) ?_))
    | (refine post1 ?_; simp only [GA, Nat.reduceEqDiff, ↓reduceIte])
    | (refine post2 ?_; simp only [GA, Nat.reduceEqDiff, ↓reduceIte])
    | (refine post3 ?_; simp only [GA, Nat.reduceEqDiff, ↓reduceIte])
    | (refine postc (by simp only [GA, Nat.reduceEqDiff, ↓reduceIte]; rfl) (by simp (disch := omega) only [c75r0, c75r1, c75r2, c75r3, c75r4, c75r5, c75r6, c75r7, c75r9, EV0, EV1, EV2, EV3, EV4, EV5, EV6, EV7, EV8, VALS, plug, ite_same, decide_true, decide_false, eq_self, ↓reduceIte, reduceCtorEq, Nat.reduceAdd, Nat.reduceEqDiff, Nat.reduceLT, Nat.reduceLeDiff, Nat.reduceMul, Nat.reduceSub, Nat.reduceDiv, Int.reduceToNat, Int.reduceAdd, Int.reduceSub, Int.reduceMul, Int.reduceNeg, Int.reduceEq, Int.reduceLT, Int.reduceLE]; rfl) ?_)
    | refine post0 ?_
  refine k_blk (k_loopS (X := Unit) [0, 1, 2, 3, 9, 10] l.length (fun k _ => [(0, vT l), (1, .vs l.length (bl gs)), (2, .i .i64 s), (3, .i .i64 c), (9, .i .i64 (lb l gs s c k)), (10, .i .i64 (k : Int))]) (fun k _ h => True) () (by simp only [Am.keep, List.map_cons, List.map_nil, GA, Nat.reduceEqDiff, ↓reduceIte]; try rfl) trivial ?_)
  rintro k _ h hk - ok pos
  by_cases hlt : k < l.length
  · have hlt' : (k : Int) < l.length := by omega
    have g0 := getT0 hlt
    have g1 := getT1 hlt
    have g2 := getT2 hlt
    have g3 := getT3 hlt
    have r := lb_range l gs s c k
    have e0 : lb l gs s c (k + 1) = if (gs.getD k false = true ∨ ¬ (l.getD k T0).side = s) ∨ ¬ (l.getD k T0).col = c then lb l gs s c k
      else if (lb l gs s c k < 0 ∨ (l.getD k T0).len < (l.getD (lb l gs s c k).toNat T0).len) ∨ ((l.getD k T0).len = (l.getD (lb l gs s c k).toNat T0).len ∧ (l.getD k T0).num < (l.getD (lb l gs s c k).toNat T0).num) then (k : Int) else lb l gs s c k := rfl
    generalize lb l gs s c k = m at r e0 ⊢
    by_cases hm : m < 0
    · repeat' first
        | with_reducible refine k_seq ?_
        | with_reducible refine k_skip ?_
        | with_reducible refine k_blkS ?_
        | with_reducible refine k_blkR ?_
        | with_reducible refine k_blkC ?_
        | with_reducible refine k_blkH ?_
        | with_reducible refine k_blkB ?_
        | with_reducible refine k_blkK ?_
        | with_reducible refine k_blkE ?_
        | with_reducible refine k_reg ?_
        | with_reducible refine k_head (by with_unfolding_all rfl) ?_
        | with_reducible refine k_headS ?_
        | (with_reducible refine SepK.mk ?_ ?_; (refine sepQ_P ?_; simp [sepQ, sepG, AOp.late, AOp.free, AOp.xs, AOp.isAl, tokNe, AV.tok, stS_get, strip, AX.val, c75r0, c75r1, c75r2, c75r3, c75r4, c75r5, c75r6, c75r7, c75r9, GA]; try omega))
        | with_reducible refine r_done ?_
        | with_reducible refine hr_done ?_
        | with_reducible refine s_go (by simp (disch := omega) only [hlt', g0, g1, g2, g3, hm, c75r0, c75r1, c75r2, c75r3, c75r4, c75r5, c75r6, c75r7, c75r9, EV0, EV1, EV2, EV3, EV4, EV5, EV6, EV7, EV8, VALS, plug, ite_same, decide_true, decide_false, eq_self, ↓reduceIte, reduceCtorEq, Nat.reduceAdd, Nat.reduceEqDiff, Nat.reduceLT, Nat.reduceLeDiff, Nat.reduceMul, Nat.reduceSub, Nat.reduceDiv, Int.reduceToNat, Int.reduceAdd, Int.reduceSub, Int.reduceMul, Int.reduceNeg, Int.reduceEq, Int.reduceLT, Int.reduceLE]; with_reducible rfl) ?_
        | with_reducible refine h_go (by with_unfolding_all rfl) (by simp (disch := omega) only [hlt', g0, g1, g2, g3, hm, c75r0, c75r1, c75r2, c75r3, c75r4, c75r5, c75r6, c75r7, c75r9, EV0, EV1, EV2, EV3, EV4, EV5, EV6, EV7, EV8, VALS, plug, ite_same, decide_true, decide_false, eq_self, ↓reduceIte, reduceCtorEq, Nat.reduceAdd, Nat.reduceEqDiff, Nat.reduceLT, Nat.reduceLeDiff, Nat.reduceMul, Nat.reduceSub, Nat.reduceDiv, Int.reduceToNat, Int.reduceAdd, Int.reduceSub, Int.reduceMul, Int.reduceNeg, Int.reduceEq, Int.reduceLT, Int.reduceLE]; with_reducible rfl) ?_
        | ((with_reducible refine chk_r ?_); refine r_callF (by simp only [CA, Nat.reduceEqDiff, ↓reduceIte]; rfl) (by exact rfl) (by simp only [CA, Nat.reduceEqDiff, ↓reduceIte]; rfl) rfl ?_)
        | ((with_reducible refine chk_h ?_); refine hr_callF (by simp only [CA, Nat.reduceEqDiff, ↓reduceIte]; rfl) (by exact rfl) (by simp only [CA, Nat.reduceEqDiff, ↓reduceIte]; rfl) rfl ?_)
        | ((with_reducible refine chk_h ?_); refine hr_app (by simp (disch := omega) only [hlt', g0, g1, g2, g3, hm, c75r0, c75r1, c75r2, c75r3, c75r4, c75r5, c75r6, c75r7, c75r9, EV0, EV1, EV2, EV3, EV4, EV5, EV6, EV7, EV8, VALS, plug, ite_same, decide_true, decide_false, eq_self, ↓reduceIte, reduceCtorEq, Nat.reduceAdd, Nat.reduceEqDiff, Nat.reduceLT, Nat.reduceLeDiff, Nat.reduceMul, Nat.reduceSub, Nat.reduceDiv, Int.reduceToNat, Int.reduceAdd, Int.reduceSub, Int.reduceMul, Int.reduceNeg, Int.reduceEq, Int.reduceLT, Int.reduceLE]; with_reducible rfl) rfl ?_)
        | (with_reducible refine k_condP (by simp only [GA, Nat.reduceEqDiff, ↓reduceIte]; rfl) (by first | (simp only [BO]; rfl) | rfl) (fun ht => ?_) (fun ht => ?_) <;> try (first | exact False.elim ht | exact absurd rfl ht | exact absurd trivial ht | exact Bool.noConfusion ht))
        | (with_reducible refine k_ret ?_; repeat with_reducible (first | refine ret_thru ?_ | refine ret_blk ?_ | refine fin ?_))
        | (with_reducible refine k_exit ?_; repeat with_reducible (first | refine thru ?_ | refine out_blk ?_ | refine pass (by decide) ?_))
        | (refine post1 ?_; simp only [GA, Nat.reduceEqDiff, ↓reduceIte])
        | (refine post2 ?_; simp only [GA, Nat.reduceEqDiff, ↓reduceIte])
        | (refine post3 ?_; simp only [GA, Nat.reduceEqDiff, ↓reduceIte])
        | (refine postc (by simp only [GA, Nat.reduceEqDiff, ↓reduceIte]; rfl) (by simp (disch := omega) only [hlt', g0, g1, g2, g3, hm, c75r0, c75r1, c75r2, c75r3, c75r4, c75r5, c75r6, c75r7, c75r9, EV0, EV1, EV2, EV3, EV4, EV5, EV6, EV7, EV8, VALS, plug, ite_same, decide_true, decide_false, eq_self, ↓reduceIte, reduceCtorEq, Nat.reduceAdd, Nat.reduceEqDiff, Nat.reduceLT, Nat.reduceLeDiff, Nat.reduceMul, Nat.reduceSub, Nat.reduceDiv, Int.reduceToNat, Int.reduceAdd, Int.reduceSub, Int.reduceMul, Int.reduceNeg, Int.reduceEq, Int.reduceLT, Int.reduceLE]; rfl) ?_)
        | refine post0 ?_
      · rw [if_pos ht] at e0
        rw [e0]
        exact ⟨hlt, (), (by simp only [Am.keep, List.map_cons, List.map_nil, GA, Nat.reduceEqDiff, ↓reduceIte]; try rfl), trivial⟩
      · rename_i h1
        rw [if_neg h1, if_pos (.inl (.inl hm))] at e0
        rw [e0]
        exact ⟨hlt, (), (by simp only [Am.keep, List.map_cons, List.map_nil, GA, Nat.reduceEqDiff, ↓reduceIte]; try rfl), trivial⟩
    · obtain ⟨b, rfl⟩ : ∃ b : Nat, m = b := ⟨m.toNat, by omega⟩
      have hb : b < l.length := by omega
      have b0 := getT0 hb
      have b2 := getT2 hb
      rw [Int.toNat_natCast] at e0
      repeat' first
        | with_reducible refine k_seq ?_
        | with_reducible refine k_skip ?_
        | with_reducible refine k_blkS ?_
        | with_reducible refine k_blkR ?_
        | with_reducible refine k_blkC ?_
        | with_reducible refine k_blkH ?_
        | with_reducible refine k_blkB ?_
        | with_reducible refine k_blkK ?_
        | with_reducible refine k_blkE ?_
        | with_reducible refine k_reg ?_
        | with_reducible refine k_head (by with_unfolding_all rfl) ?_
        | with_reducible refine k_headS ?_
        | (with_reducible refine SepK.mk ?_ ?_; (refine sepQ_P ?_; simp [sepQ, sepG, AOp.late, AOp.free, AOp.xs, AOp.isAl, tokNe, AV.tok, stS_get, strip, AX.val, c75r0, c75r1, c75r2, c75r3, c75r4, c75r5, c75r6, c75r7, c75r9, GA]; try omega))
        | with_reducible refine r_done ?_
        | with_reducible refine hr_done ?_
        | with_reducible refine s_go (by simp (disch := omega) only [hlt', g0, g1, g2, g3, b0, b2, hm, c75r0, c75r1, c75r2, c75r3, c75r4, c75r5, c75r6, c75r7, c75r9, EV0, EV1, EV2, EV3, EV4, EV5, EV6, EV7, EV8, VALS, plug, ite_same, decide_true, decide_false, eq_self, ↓reduceIte, reduceCtorEq, Nat.reduceAdd, Nat.reduceEqDiff, Nat.reduceLT, Nat.reduceLeDiff, Nat.reduceMul, Nat.reduceSub, Nat.reduceDiv, Int.reduceToNat, Int.reduceAdd, Int.reduceSub, Int.reduceMul, Int.reduceNeg, Int.reduceEq, Int.reduceLT, Int.reduceLE]; with_reducible rfl) ?_
        | with_reducible refine h_go (by with_unfolding_all rfl) (by simp (disch := omega) only [hlt', g0, g1, g2, g3, b0, b2, hm, c75r0, c75r1, c75r2, c75r3, c75r4, c75r5, c75r6, c75r7, c75r9, EV0, EV1, EV2, EV3, EV4, EV5, EV6, EV7, EV8, VALS, plug, ite_same, decide_true, decide_false, eq_self, ↓reduceIte, reduceCtorEq, Nat.reduceAdd, Nat.reduceEqDiff, Nat.reduceLT, Nat.reduceLeDiff, Nat.reduceMul, Nat.reduceSub, Nat.reduceDiv, Int.reduceToNat, Int.reduceAdd, Int.reduceSub, Int.reduceMul, Int.reduceNeg, Int.reduceEq, Int.reduceLT, Int.reduceLE]; with_reducible rfl) ?_
        | ((with_reducible refine chk_r ?_); refine r_callF (by simp only [CA, Nat.reduceEqDiff, ↓reduceIte]; rfl) (by exact rfl) (by simp only [CA, Nat.reduceEqDiff, ↓reduceIte]; rfl) rfl ?_)
        | ((with_reducible refine chk_h ?_); refine hr_callF (by simp only [CA, Nat.reduceEqDiff, ↓reduceIte]; rfl) (by exact rfl) (by simp only [CA, Nat.reduceEqDiff, ↓reduceIte]; rfl) rfl ?_)
        | ((with_reducible refine chk_h ?_); refine hr_app (by simp (disch := omega) only [hlt', g0, g1, g2, g3, b0, b2, hm, c75r0, c75r1, c75r2, c75r3, c75r4, c75r5, c75r6, c75r7, c75r9, EV0, EV1, EV2, EV3, EV4, EV5, EV6, EV7, EV8, VALS, plug, ite_same, decide_true, decide_false, eq_self, ↓reduceIte, reduceCtorEq, Nat.reduceAdd, Nat.reduceEqDiff, Nat.reduceLT, Nat.reduceLeDiff, Nat.reduceMul, Nat.reduceSub, Nat.reduceDiv, Int.reduceToNat, Int.reduceAdd, Int.reduceSub, Int.reduceMul, Int.reduceNeg, Int.reduceEq, Int.reduceLT, Int.reduceLE]; with_reducible rfl) rfl ?_)
        | (with_reducible refine k_condP (by simp only [GA, Nat.reduceEqDiff, ↓reduceIte]; rfl) (by first | (simp only [BO]; rfl) | rfl) (fun ht => ?_) (fun ht => ?_) <;> try (first | exact False.elim ht | exact absurd rfl ht | exact absurd trivial ht | exact Bool.noConfusion ht))
        | (with_reducible refine k_ret ?_; repeat with_reducible (first | refine ret_thru ?_ | refine ret_blk ?_ | refine fin ?_))
        | (with_reducible refine k_exit ?_; repeat with_reducible (first | refine thru ?_ | refine out_blk ?_ | refine pass (by decide) ?_))
        | (refine post1 ?_; simp only [GA, Nat.reduceEqDiff, ↓reduceIte])
        | (refine post2 ?_; simp only [GA, Nat.reduceEqDiff, ↓reduceIte])
        | (refine post3 ?_; simp only [GA, Nat.reduceEqDiff, ↓reduceIte])
        | (refine postc (by simp only [GA, Nat.reduceEqDiff, ↓reduceIte]; rfl) (by simp (disch := omega) only [hlt', g0, g1, g2, g3, b0, b2, hm, c75r0, c75r1, c75r2, c75r3, c75r4, c75r5, c75r6, c75r7, c75r9, EV0, EV1, EV2, EV3, EV4, EV5, EV6, EV7, EV8, VALS, plug, ite_same, decide_true, decide_false, eq_self, ↓reduceIte, reduceCtorEq, Nat.reduceAdd, Nat.reduceEqDiff, Nat.reduceLT, Nat.reduceLeDiff, Nat.reduceMul, Nat.reduceSub, Nat.reduceDiv, Int.reduceToNat, Int.reduceAdd, Int.reduceSub, Int.reduceMul, Int.reduceNeg, Int.reduceEq, Int.reduceLT, Int.reduceLE]; rfl) ?_)
        | refine post0 ?_
      · rw [if_pos ht] at e0
        rw [e0]
        exact ⟨hlt, (), (by simp only [Am.keep, List.map_cons, List.map_nil, GA, Nat.reduceEqDiff, ↓reduceIte]; try rfl), trivial⟩
      · rename_i h1
        rw [if_neg h1, if_pos (by rcases ht with h | h; exact .inl (.inr h); exact .inr h)] at e0
        rw [e0]
        exact ⟨hlt, (), (by simp only [Am.keep, List.map_cons, List.map_nil, GA, Nat.reduceEqDiff, ↓reduceIte]; try rfl), trivial⟩
      · rename_i h1
        rw [if_neg h1, if_neg (by rintro ((h | h) | h); exact hm h; exact ht (.inl h); exact ht (.inr h))] at e0
        rw [e0]
        exact ⟨hlt, (), (by simp only [Am.keep, List.map_cons, List.map_nil, GA, Nat.reduceEqDiff, ↓reduceIte]; try rfl), trivial⟩
  · obtain rfl : k = l.length := by omega
    have hlt' : ¬ (l.length : Int) < l.length := by omega
    repeat' first
      | with_reducible refine k_seq ?_
      | with_reducible refine k_skip ?_
      | with_reducible refine k_blkS ?_
      | with_reducible refine k_blkR ?_
      | with_reducible refine k_blkC ?_
      | with_reducible refine k_blkH ?_
      | with_reducible refine k_blkB ?_
      | with_reducible refine k_blkK ?_
      | with_reducible refine k_blkE ?_
      | with_reducible refine k_reg ?_
      | with_reducible refine k_head (by with_unfolding_all rfl) ?_
      | with_reducible refine k_headS ?_
      | (with_reducible refine SepK.mk ?_ ?_; (refine sepQ_P ?_; simp [sepQ, sepG, AOp.late, AOp.free, AOp.xs, AOp.isAl, tokNe, AV.tok, stS_get, strip, AX.val, c75r0, c75r1, c75r2, c75r3, c75r4, c75r5, c75r6, c75r7, c75r9, GA]; try omega))
      | with_reducible refine r_done ?_
      | with_reducible refine hr_done ?_
      | with_reducible refine s_go (by simp (disch := omega) only [hlt', c75r0, c75r1, c75r2, c75r3, c75r4, c75r5, c75r6, c75r7, c75r9, EV0, EV1, EV2, EV3, EV4, EV5, EV6, EV7, EV8, VALS, plug, ite_same, decide_true, decide_false, eq_self, ↓reduceIte, reduceCtorEq, Nat.reduceAdd, Nat.reduceEqDiff, Nat.reduceLT, Nat.reduceLeDiff, Nat.reduceMul, Nat.reduceSub, Nat.reduceDiv, Int.reduceToNat, Int.reduceAdd, Int.reduceSub, Int.reduceMul, Int.reduceNeg, Int.reduceEq, Int.reduceLT, Int.reduceLE]; with_reducible rfl) ?_
      | with_reducible refine h_go (by with_unfolding_all rfl) (by simp (disch := omega) only [hlt', c75r0, c75r1, c75r2, c75r3, c75r4, c75r5, c75r6, c75r7, c75r9, EV0, EV1, EV2, EV3, EV4, EV5, EV6, EV7, EV8, VALS, plug, ite_same, decide_true, decide_false, eq_self, ↓reduceIte, reduceCtorEq, Nat.reduceAdd, Nat.reduceEqDiff, Nat.reduceLT, Nat.reduceLeDiff, Nat.reduceMul, Nat.reduceSub, Nat.reduceDiv, Int.reduceToNat, Int.reduceAdd, Int.reduceSub, Int.reduceMul, Int.reduceNeg, Int.reduceEq, Int.reduceLT, Int.reduceLE]; with_reducible rfl) ?_
      | ((with_reducible refine chk_r ?_); refine r_callF (by simp only [CA, Nat.reduceEqDiff, ↓reduceIte]; rfl) (by exact rfl) (by simp only [CA, Nat.reduceEqDiff, ↓reduceIte]; rfl) rfl ?_)
      | ((with_reducible refine chk_h ?_); refine hr_callF (by simp only [CA, Nat.reduceEqDiff, ↓reduceIte]; rfl) (by exact rfl) (by simp only [CA, Nat.reduceEqDiff, ↓reduceIte]; rfl) rfl ?_)
      | ((with_reducible refine chk_h ?_); refine hr_app (by simp (disch := omega) only [hlt', c75r0, c75r1, c75r2, c75r3, c75r4, c75r5, c75r6, c75r7, c75r9, EV0, EV1, EV2, EV3, EV4, EV5, EV6, EV7, EV8, VALS, plug, ite_same, decide_true, decide_false, eq_self, ↓reduceIte, reduceCtorEq, Nat.reduceAdd, Nat.reduceEqDiff, Nat.reduceLT, Nat.reduceLeDiff, Nat.reduceMul, Nat.reduceSub, Nat.reduceDiv, Int.reduceToNat, Int.reduceAdd, Int.reduceSub, Int.reduceMul, Int.reduceNeg, Int.reduceEq, Int.reduceLT, Int.reduceLE]; with_reducible rfl) rfl ?_)
      | (with_reducible refine k_condP (by simp only [GA, Nat.reduceEqDiff, ↓reduceIte]; rfl) (by first | (simp only [BO]; rfl) | rfl) (fun ht => ?_) (fun ht => ?_) <;> try (first | exact False.elim ht | exact absurd rfl ht | exact absurd trivial ht | exact Bool.noConfusion ht))
      | (with_reducible refine k_ret ?_; repeat with_reducible (first | refine ret_thru ?_ | refine ret_blk ?_ | refine fin ?_))
      | (with_reducible refine k_exit ?_; repeat with_reducible (first | refine thru ?_ | refine out_blk ?_ | refine pass (by decide) ?_))
      | (refine post1 ?_; simp only [GA, Nat.reduceEqDiff, ↓reduceIte])
      | (refine post2 ?_; simp only [GA, Nat.reduceEqDiff, ↓reduceIte])
      | (refine post3 ?_; simp only [GA, Nat.reduceEqDiff, ↓reduceIte])
      | (refine postc (by simp only [GA, Nat.reduceEqDiff, ↓reduceIte]; rfl) (by simp (disch := omega) only [hlt', c75r0, c75r1, c75r2, c75r3, c75r4, c75r5, c75r6, c75r7, c75r9, EV0, EV1, EV2, EV3, EV4, EV5, EV6, EV7, EV8, VALS, plug, ite_same, decide_true, decide_false, eq_self, ↓reduceIte, reduceCtorEq, Nat.reduceAdd, Nat.reduceEqDiff, Nat.reduceLT, Nat.reduceLeDiff, Nat.reduceMul, Nat.reduceSub, Nat.reduceDiv, Int.reduceToNat, Int.reduceAdd, Int.reduceSub, Int.reduceMul, Int.reduceNeg, Int.reduceEq, Int.reduceLT, Int.reduceLE]; rfl) ?_)
      | refine post0 ?_
    all_goals first | exact ends_of | exact ends_eq rfl
end Go.Proofs.Ytbhkbaapfioijaa
set_option linter.unusedVariables false
set_option linter.unusedSimpArgs false
namespace Go.Proofs.Ytbhkbaapfioijaa
open Go Go.Am Go.Proofs Go.Sort
/-! ### The same lists -/
theorem pc33 (ns : List Nat) (hn : ns.length ≤ 9223372036854775807) : PC Try.prog 33 [.vs ns.length (nl ns), .vs ns.length (nl ns)] (.b true) := by
  refine pc_fn fn33 (by simp only [AV.plains, AV.plain, il_plain, bl_plain, Bool.and_true, Bool.true_and, Bool.and_self, nl_plain]) (by simp only [AV.plains, AV.plain, il_plain, bl_plain, Bool.and_true, Bool.true_and, Bool.and_self, nl_plain]) (Nat.le_of_ble_eq_true rfl) ?_
  rw [initSt2]
  repeat' first
    | with_reducible refine k_seq ?_
    | with_reducible refine k_skip ?_
    | with_reducible refine k_blkS ?_
    | with_reducible refine k_blkR ?_
    | with_reducible refine k_blkC ?_
    | with_reducible refine k_blkH ?_
    | with_reducible refine k_blkB ?_
    | with_reducible refine k_blkK ?_
    | with_reducible refine k_blkE ?_
    | with_reducible refine k_reg ?_
    | with_reducible refine k_head (by with_unfolding_all rfl) ?_
    | with_reducible refine k_headS ?_
    | (with_reducible refine SepK.mk ?_ ?_; (refine sepQ_P ?_; simp [sepQ, sepG, AOp.late, AOp.free, AOp.xs, AOp.isAl, tokNe, AV.tok, stS_get, strip, AX.val, c33r0, c33r1, c33r2, c33r3, c33r4, c33r5, c33r6, c33r7, c33r9, GA]; try omega))
    | with_reducible refine r_done ?_
    | with_reducible refine hr_done ?_
    | with_reducible refine s_go (by simp (disch := omega) only [c33r0, c33r1, c33r2, c33r3, c33r4, c33r5, c33r6, c33r7, c33r9, EV0, EV1, EV2, EV3, EV4, EV5, EV6, EV7, EV8, VALS, plug, ite_same, decide_true, decide_false, eq_self, ↓reduceIte, reduceCtorEq, Nat.reduceAdd, Nat.reduceEqDiff, Nat.reduceLT, Nat.reduceLeDiff, Nat.reduceMul, Nat.reduceSub, Nat.reduceDiv, Int.reduceToNat, Int.reduceAdd, Int.reduceSub, Int.reduceMul, Int.reduceNeg, Int.reduceEq, Int.reduceLT, Int.reduceLE]; with_reducible rfl) ?_
    | with_reducible refine h_go (by with_unfolding_all rfl) (by simp (disch := omega) only [c33r0, c33r1, c33r2, c33r3, c33r4, c33r5, c33r6, c33r7, c33r9, EV0, EV1, EV2, EV3, EV4, EV5, EV6, EV7, EV8, VALS, plug, ite_same, decide_true, decide_false, eq_self, ↓reduceIte, reduceCtorEq, Nat.reduceAdd, Nat.reduceEqDiff, Nat.reduceLT, Nat.reduceLeDiff, Nat.reduceMul, Nat.reduceSub, Nat.reduceDiv, Int.reduceToNat, Int.reduceAdd, Int.reduceSub, Int.reduceMul, Int.reduceNeg, Int.reduceEq, Int.reduceLT, Int.reduceLE]; with_reducible rfl) ?_
    | ((with_reducible refine chk_r ?_); refine r_callF (by simp only [CA, Nat.reduceEqDiff, ↓reduceIte]; rfl) (by exact rfl) (by simp only [CA, Nat.reduceEqDiff, ↓reduceIte]; rfl) rfl ?_)
    | ((with_reducible refine chk_h ?_); refine hr_callF (by simp only [CA, Nat.reduceEqDiff, ↓reduceIte]; rfl) (by exact rfl) (by simp only [CA, Nat.reduceEqDiff, ↓reduceIte]; rfl) rfl ?_)
    | ((with_reducible refine chk_h ?_); refine hr_app (by simp (disch := omega) only [c33r0, c33r1, c33r2, c33r3, c33r4, c33r5, c33r6, c33r7, c33r9, EV0, EV1, EV2, EV3, EV4, EV5, EV6, EV7, EV8, VALS, plug, ite_same, decide_true, decide_false, eq_self, ↓reduceIte, reduceCtorEq, Nat.reduceAdd, Nat.reduceEqDiff, Nat.reduceLT, Nat.reduceLeDiff, Nat.reduceMul, Nat.reduceSub, Nat.reduceDiv, Int.reduceToNat, Int.reduceAdd, Int.reduceSub, Int.reduceMul, Int.reduceNeg, Int.reduceEq, Int.reduceLT, Int.reduceLE]; with_reducible rfl) rfl ?_)
    | (with_reducible refine k_condP (by simp only [GA, Nat.reduceEqDiff, ↓reduceIte]; rfl) (by first | (simp only [BO]; rfl) | rfl) (fun ht => ?_) (fun ht => ?_) <;> try (first | exact False.elim ht | exact absurd rfl ht | exact absurd trivial ht | exact Bool.noConfusion ht))
    | (with_reducible refine k_ret ?_; repeat with_reducible (first | refine ret_thru ?_ | refine ret_blk ?_ | refine fin ?_))
    | (with_reducible refine k_exit ?_; repeat with_reducible (first | refine thru ?_ | refine out_blk ?_ | refine pass (by decide) ?_))
    | (refine post1 ?_; simp only [GA, Nat.reduceEqDiff, ↓reduceIte])
    | (refine post2 ?_; simp only [GA, Nat.reduceEqDiff, ↓reduceIte])
    | (refine post3 ?_; simp only [GA, Nat.reduceEqDiff, ↓reduceIte])
    | (refine postc (by simp only [GA, Nat.reduceEqDiff, ↓reduceIte]; rfl) (by simp (disch := omega) only [c33r0, c33r1, c33r2, c33r3, c33r4, c33r5, c33r6, c33r7, c33r9, EV0, EV1, EV2, EV3, EV4, EV5, EV6, EV7, EV8, VALS, plug, ite_same, decide_true, decide_false, eq_self, ↓reduceIte, reduceCtorEq, Nat.reduceAdd, Nat.reduceEqDiff, Nat.reduceLT, Nat.reduceLeDiff, Nat.reduceMul, Nat.reduceSub, Nat.reduceDiv, Int.reduceToNat, Int.reduceAdd, Int.reduceSub, Int.reduceMul, Int.reduceNeg, Int.reduceEq, Int.reduceLT, Int.reduceLE]; rfl) ?_)
    | refine post0 ?_
  refine k_blk (k_loopS (X := Unit) [0, 1, 5] ns.length (fun k _ => [(0, .vs ns.length (nl ns)), (1, .vs ns.length (nl ns)), (5, .i .i64 (k : Int))]) (fun k _ h => True) () (by simp only [Am.keep, List.map_cons, List.map_nil, GA, Nat.reduceEqDiff, ↓reduceIte]; try rfl) trivial ?_)
  rintro k _ h hk - ok pos
  by_cases hlt : k < ns.length
  · have hlt' : (k : Int) < ns.length := by omega
    have g := nl_get hlt
    repeat' first
      | with_reducible refine k_seq ?_
      | with_reducible refine k_skip ?_
      | with_reducible refine k_blkS ?_
      | with_reducible refine k_blkR ?_
      | with_reducible refine k_blkC ?_
      | with_reducible refine k_blkH ?_
      | with_reducible refine k_blkB ?_
      | with_reducible refine k_blkK ?_
      | with_reducible refine k_blkE ?_
      | with_reducible refine k_reg ?_
      | with_reducible refine k_head (by with_unfolding_all rfl) ?_
      | with_reducible refine k_headS ?_
      | (with_reducible refine SepK.mk ?_ ?_; (refine sepQ_P ?_; simp [sepQ, sepG, AOp.late, AOp.free, AOp.xs, AOp.isAl, tokNe, AV.tok, stS_get, strip, AX.val, c33r0, c33r1, c33r2, c33r3, c33r4, c33r5, c33r6, c33r7, c33r9, GA]; try omega))
      | with_reducible refine r_done ?_
      | with_reducible refine hr_done ?_
      | with_reducible refine s_go (by simp (disch := omega) only [hlt', g, c33r0, c33r1, c33r2, c33r3, c33r4, c33r5, c33r6, c33r7, c33r9, EV0, EV1, EV2, EV3, EV4, EV5, EV6, EV7, EV8, VALS, plug, ite_same, decide_true, decide_false, eq_self, ↓reduceIte, reduceCtorEq, Nat.reduceAdd, Nat.reduceEqDiff, Nat.reduceLT, Nat.reduceLeDiff, Nat.reduceMul, Nat.reduceSub, Nat.reduceDiv, Int.reduceToNat, Int.reduceAdd, Int.reduceSub, Int.reduceMul, Int.reduceNeg, Int.reduceEq, Int.reduceLT, Int.reduceLE]; with_reducible rfl) ?_
      | with_reducible refine h_go (by with_unfolding_all rfl) (by simp (disch := omega) only [hlt', g, c33r0, c33r1, c33r2, c33r3, c33r4, c33r5, c33r6, c33r7, c33r9, EV0, EV1, EV2, EV3, EV4, EV5, EV6, EV7, EV8, VALS, plug, ite_same, decide_true, decide_false, eq_self, ↓reduceIte, reduceCtorEq, Nat.reduceAdd, Nat.reduceEqDiff, Nat.reduceLT, Nat.reduceLeDiff, Nat.reduceMul, Nat.reduceSub, Nat.reduceDiv, Int.reduceToNat, Int.reduceAdd, Int.reduceSub, Int.reduceMul, Int.reduceNeg, Int.reduceEq, Int.reduceLT, Int.reduceLE]; with_reducible rfl) ?_
      | ((with_reducible refine chk_r ?_); refine r_callF (by simp only [CA, Nat.reduceEqDiff, ↓reduceIte]; rfl) (by exact rfl) (by simp only [CA, Nat.reduceEqDiff, ↓reduceIte]; rfl) rfl ?_)
      | ((with_reducible refine chk_h ?_); refine hr_callF (by simp only [CA, Nat.reduceEqDiff, ↓reduceIte]; rfl) (by exact rfl) (by simp only [CA, Nat.reduceEqDiff, ↓reduceIte]; rfl) rfl ?_)
      | ((with_reducible refine chk_h ?_); refine hr_app (by simp (disch := omega) only [hlt', g, c33r0, c33r1, c33r2, c33r3, c33r4, c33r5, c33r6, c33r7, c33r9, EV0, EV1, EV2, EV3, EV4, EV5, EV6, EV7, EV8, VALS, plug, ite_same, decide_true, decide_false, eq_self, ↓reduceIte, reduceCtorEq, Nat.reduceAdd, Nat.reduceEqDiff, Nat.reduceLT, Nat.reduceLeDiff, Nat.reduceMul, Nat.reduceSub, Nat.reduceDiv, Int.reduceToNat, Int.reduceAdd, Int.reduceSub, Int.reduceMul, Int.reduceNeg, Int.reduceEq, Int.reduceLT, Int.reduceLE]; with_reducible rfl) rfl ?_)
      | (with_reducible refine k_condP (by simp only [GA, Nat.reduceEqDiff, ↓reduceIte]; rfl) (by first | (simp only [BO]; rfl) | rfl) (fun ht => ?_) (fun ht => ?_) <;> try (first | exact False.elim ht | exact absurd rfl ht | exact absurd trivial ht | exact Bool.noConfusion ht))
      | (with_reducible refine k_ret ?_; repeat with_reducible (first | refine ret_thru ?_ | refine ret_blk ?_ | refine fin ?_))
      | (with_reducible refine k_exit ?_; repeat with_reducible (first | refine thru ?_ | refine out_blk ?_ | refine pass (by decide) ?_))
      | (refine post1 ?_; simp only [GA, Nat.reduceEqDiff, ↓reduceIte])
      | (refine post2 ?_; simp only [GA, Nat.reduceEqDiff, ↓reduceIte])
      | (refine post3 ?_; simp only [GA, Nat.reduceEqDiff, ↓reduceIte])
      | (refine postc (by simp only [GA, Nat.reduceEqDiff, ↓reduceIte]; rfl) (by simp (disch := omega) only [hlt', g, c33r0, c33r1, c33r2, c33r3, c33r4, c33r5, c33r6, c33r7, c33r9, EV0, EV1, EV2, EV3, EV4, EV5, EV6, EV7, EV8, VALS, plug, ite_same, decide_true, decide_false, eq_self, ↓reduceIte, reduceCtorEq, Nat.reduceAdd, Nat.reduceEqDiff, Nat.reduceLT, Nat.reduceLeDiff, Nat.reduceMul, Nat.reduceSub, Nat.reduceDiv, Int.reduceToNat, Int.reduceAdd, Int.reduceSub, Int.reduceMul, Int.reduceNeg, Int.reduceEq, Int.reduceLT, Int.reduceLE]; rfl) ?_)
      | refine post0 ?_
    exact ⟨hlt, (), (by simp only [Am.keep, List.map_cons, List.map_nil, GA, Nat.reduceEqDiff, ↓reduceIte]; try rfl), trivial⟩
  · obtain rfl : k = ns.length := by omega
    have hlt' : ¬ (ns.length : Int) < ns.length := by omega
    repeat' first
      | with_reducible refine k_seq ?_
      | with_reducible refine k_skip ?_
      | with_reducible refine k_blkS ?_
      | with_reducible refine k_blkR ?_
      | with_reducible refine k_blkC ?_
      | with_reducible refine k_blkH ?_
      | with_reducible refine k_blkB ?_
      | with_reducible refine k_blkK ?_
      | with_reducible refine k_blkE ?_
      | with_reducible refine k_reg ?_
      | with_reducible refine k_head (by with_unfolding_all rfl) ?_
      | with_reducible refine k_headS ?_
      | (with_reducible refine SepK.mk ?_ ?_; (refine sepQ_P ?_; simp [sepQ, sepG, AOp.late, AOp.free, AOp.xs, AOp.isAl, tokNe, AV.tok, stS_get, strip, AX.val, c33r0, c33r1, c33r2, c33r3, c33r4, c33r5, c33r6, c33r7, c33r9, GA]; try omega))
      | with_reducible refine r_done ?_
      | with_reducible refine hr_done ?_
      | with_reducible refine s_go (by simp (disch := omega) only [hlt', c33r0, c33r1, c33r2, c33r3, c33r4, c33r5, c33r6, c33r7, c33r9, EV0, EV1, EV2, EV3, EV4, EV5, EV6, EV7, EV8, VALS, plug, ite_same, decide_true, decide_false, eq_self, ↓reduceIte, reduceCtorEq, Nat.reduceAdd, Nat.reduceEqDiff, Nat.reduceLT, Nat.reduceLeDiff, Nat.reduceMul, Nat.reduceSub, Nat.reduceDiv, Int.reduceToNat, Int.reduceAdd, Int.reduceSub, Int.reduceMul, Int.reduceNeg, Int.reduceEq, Int.reduceLT, Int.reduceLE]; with_reducible rfl) ?_
      | with_reducible refine h_go (by with_unfolding_all rfl) (by simp (disch := omega) only [hlt', c33r0, c33r1, c33r2, c33r3, c33r4, c33r5, c33r6, c33r7, c33r9, EV0, EV1, EV2, EV3, EV4, EV5, EV6, EV7, EV8, VALS, plug, ite_same, decide_true, decide_false, eq_self, ↓reduceIte, reduceCtorEq, Nat.reduceAdd, Nat.reduceEqDiff, Nat.reduceLT, Nat.reduceLeDiff, Nat.reduceMul, Nat.reduceSub, Nat.reduceDiv, Int.reduceToNat, Int.reduceAdd, Int.reduceSub, Int.reduceMul, Int.reduceNeg, Int.reduceEq, Int.reduceLT, Int.reduceLE]; with_reducible rfl) ?_
      | ((with_reducible refine chk_r ?_); refine r_callF (by simp only [CA, Nat.reduceEqDiff, ↓reduceIte]; rfl) (by exact rfl) (by simp only [CA, Nat.reduceEqDiff, ↓reduceIte]; rfl) rfl ?_)
      | ((with_reducible refine chk_h ?_); refine hr_callF (by simp only [CA, Nat.reduceEqDiff, ↓reduceIte]; rfl) (by exact rfl) (by simp only [CA, Nat.reduceEqDiff, ↓reduceIte]; rfl) rfl ?_)
      | ((with_reducible refine chk_h ?_); refine hr_app (by simp (disch := omega) only [hlt', c33r0, c33r1, c33r2, c33r3, c33r4, c33r5, c33r6, c33r7, c33r9, EV0, EV1, EV2, EV3, EV4, EV5, EV6, EV7, EV8, VALS, plug, ite_same, decide_true, decide_false, eq_self, ↓reduceIte, reduceCtorEq, Nat.reduceAdd, Nat.reduceEqDiff, Nat.reduceLT, Nat.reduceLeDiff, Nat.reduceMul, Nat.reduceSub, Nat.reduceDiv, Int.reduceToNat, Int.reduceAdd, Int.reduceSub, Int.reduceMul, Int.reduceNeg, Int.reduceEq, Int.reduceLT, Int.reduceLE]; with_reducible rfl) rfl ?_)
      | (with_reducible refine k_condP (by simp only [GA, Nat.reduceEqDiff, ↓reduceIte]; rfl) (by first | (simp only [BO]; rfl) | rfl) (fun ht => ?_) (fun ht => ?_) <;> try (first | exact False.elim ht | exact absurd rfl ht | exact absurd trivial ht | exact Bool.noConfusion ht))
      | (with_reducible refine k_ret ?_; repeat with_reducible (first | refine ret_thru ?_ | refine ret_blk ?_ | refine fin ?_))
      | (with_reducible refine k_exit ?_; repeat with_reducible (first | refine thru ?_ | refine out_blk ?_ | refine pass (by decide) ?_))
      | (refine post1 ?_; simp only [GA, Nat.reduceEqDiff, ↓reduceIte])
      | (refine post2 ?_; simp only [GA, Nat.reduceEqDiff, ↓reduceIte])
      | (refine post3 ?_; simp only [GA, Nat.reduceEqDiff, ↓reduceIte])
      | (refine postc (by simp only [GA, Nat.reduceEqDiff, ↓reduceIte]; rfl) (by simp (disch := omega) only [hlt', c33r0, c33r1, c33r2, c33r3, c33r4, c33r5, c33r6, c33r7, c33r9, EV0, EV1, EV2, EV3, EV4, EV5, EV6, EV7, EV8, VALS, plug, ite_same, decide_true, decide_false, eq_self, ↓reduceIte, reduceCtorEq, Nat.reduceAdd, Nat.reduceEqDiff, Nat.reduceLT, Nat.reduceLeDiff, Nat.reduceMul, Nat.reduceSub, Nat.reduceDiv, Int.reduceToNat, Int.reduceAdd, Int.reduceSub, Int.reduceMul, Int.reduceNeg, Int.reduceEq, Int.reduceLT, Int.reduceLE]; rfl) ?_)
      | refine post0 ?_
    all_goals first | exact ends_of | exact ends_eq rfl
theorem pc32 (M : List (Nat × Nat)) (hn : M.length ≤ 9223372036854775807) : PC Try.prog 32 [vP M, vP M] (.b true) := by
  refine pc_fn fn32 (by simp only [AV.plains, AV.plain, il_plain, bl_plain, Bool.and_true, Bool.true_and, Bool.and_self, flP_plain]) (by simp only [AV.plains, AV.plain, il_plain, bl_plain, Bool.and_true, Bool.true_and, Bool.and_self, flP_plain]) (Nat.le_of_ble_eq_true rfl) ?_
  rw [initSt2]
  repeat' first
    | with_reducible refine k_seq ?_
    | with_reducible refine k_skip ?_
    | with_reducible refine k_blkS ?_
    | with_reducible refine k_blkR ?_
    | with_reducible refine k_blkC ?_
    | with_reducible refine k_blkH ?_
    | with_reducible refine k_blkB ?_
    | with_reducible refine k_blkK ?_
    | with_reducible refine k_blkE ?_
    | with_reducible refine k_reg ?_
    | with_reducible refine k_head (by with_unfolding_all rfl) ?_
    | with_reducible refine k_headS ?_
    | (with_reducible refine SepK.mk ?_ ?_; (refine sepQ_P ?_; simp [sepQ, sepG, AOp.late, AOp.free, AOp.xs, AOp.isAl, tokNe, AV.tok, stS_get, strip, AX.val, c32r0, c32r1, c32r2, c32r3, c32r4, c32r5, c32r6, c32r7, c32r9, GA]; try omega))
    | with_reducible refine r_done ?_
    | with_reducible refine hr_done ?_
    | with_reducible refine s_go (by simp (disch := omega) only [c32r0, c32r1, c32r2, c32r3, c32r4, c32r5, c32r6, c32r7, c32r9, EV0, EV1, EV2, EV3, EV4, EV5, EV6, EV7, EV8, VALS, plug, ite_same, decide_true, decide_false, eq_self, ↓reduceIte, reduceCtorEq, Nat.reduceAdd, Nat.reduceEqDiff, Nat.reduceLT, Nat.reduceLeDiff, Nat.reduceMul, Nat.reduceSub, Nat.reduceDiv, Int.reduceToNat, Int.reduceAdd, Int.reduceSub, Int.reduceMul, Int.reduceNeg, Int.reduceEq, Int.reduceLT, Int.reduceLE]; with_reducible rfl) ?_
    | with_reducible refine h_go (by with_unfolding_all rfl) (by simp (disch := omega) only [c32r0, c32r1, c32r2, c32r3, c32r4, c32r5, c32r6, c32r7, c32r9, EV0, EV1, EV2, EV3, EV4, EV5, EV6, EV7, EV8, VALS, plug, ite_same, decide_true, decide_false, eq_self, ↓reduceIte, reduceCtorEq, Nat.reduceAdd, Nat.reduceEqDiff, Nat.reduceLT, Nat.reduceLeDiff, Nat.reduceMul, Nat.reduceSub, Nat.reduceDiv, Int.reduceToNat, Int.reduceAdd, Int.reduceSub, Int.reduceMul, Int.reduceNeg, Int.reduceEq, Int.reduceLT, Int.reduceLE]; with_reducible rfl) ?_
    | ((with_reducible refine chk_r ?_); refine r_callF (by simp only [CA, Nat.reduceEqDiff, ↓reduceIte]; rfl) (by exact rfl) (by simp only [CA, Nat.reduceEqDiff, ↓reduceIte]; rfl) rfl ?_)
    | ((with_reducible refine chk_h ?_); refine hr_callF (by simp only [CA, Nat.reduceEqDiff, ↓reduceIte]; rfl) (by exact rfl) (by simp only [CA, Nat.reduceEqDiff, ↓reduceIte]; rfl) rfl ?_)
    | ((with_reducible refine chk_h ?_); refine hr_app (by simp (disch := omega) only [c32r0, c32r1, c32r2, c32r3, c32r4, c32r5, c32r6, c32r7, c32r9, EV0, EV1, EV2, EV3, EV4, EV5, EV6, EV7, EV8, VALS, plug, ite_same, decide_true, decide_false, eq_self, ↓reduceIte, reduceCtorEq, Nat.reduceAdd, Nat.reduceEqDiff, Nat.reduceLT, Nat.reduceLeDiff, Nat.reduceMul, Nat.reduceSub, Nat.reduceDiv, Int.reduceToNat, Int.reduceAdd, Int.reduceSub, Int.reduceMul, Int.reduceNeg, Int.reduceEq, Int.reduceLT, Int.reduceLE]; with_reducible rfl) rfl ?_)
    | (with_reducible refine k_condP (by simp only [GA, Nat.reduceEqDiff, ↓reduceIte]; rfl) (by first | (simp only [BO]; rfl) | rfl) (fun ht => ?_) (fun ht => ?_) <;> try (first | exact False.elim ht | exact absurd rfl ht | exact absurd trivial ht | exact Bool.noConfusion ht))
    | (with_reducible refine k_ret ?_; repeat with_reducible (first | refine ret_thru ?_ | refine ret_blk ?_ | refine fin ?_))
    | (with_reducible refine k_exit ?_; repeat with_reducible (first | refine thru ?_ | refine out_blk ?_ | refine pass (by decide) ?_))
    | (refine post1 ?_; simp only [GA, Nat.reduceEqDiff, ↓reduceIte])
    | (refine post2 ?_; simp only [GA, Nat.reduceEqDiff, ↓reduceIte])
    | (refine post3 ?_; simp only [GA, Nat.reduceEqDiff, ↓reduceIte])
    | (refine postc (by simp only [GA, Nat.reduceEqDiff, ↓reduceIte]; rfl) (by simp (disch := omega) only [c32r0, c32r1, c32r2, c32r3, c32r4, c32r5, c32r6, c32r7, c32r9, EV0, EV1, EV2, EV3, EV4, EV5, EV6, EV7, EV8, VALS, plug, ite_same, decide_true, decide_false, eq_self, ↓reduceIte, reduceCtorEq, Nat.reduceAdd, Nat.reduceEqDiff, Nat.reduceLT, Nat.reduceLeDiff, Nat.reduceMul, Nat.reduceSub, Nat.reduceDiv, Int.reduceToNat, Int.reduceAdd, Int.reduceSub, Int.reduceMul, Int.reduceNeg, Int.reduceEq, Int.reduceLT, Int.reduceLE]; rfl) ?_)
    | refine post0 ?_
  refine k_blk (k_loopS (X := Unit) [0, 1, 5] M.length (fun k _ => [(0, vP M), (1, vP M), (5, .i .i64 (k : Int))]) (fun k _ h => True) () (by simp only [Am.keep, List.map_cons, List.map_nil, GA, Nat.reduceEqDiff, ↓reduceIte]; try rfl) trivial ?_)
  rintro k _ h hk - ok pos
  by_cases hlt : k < M.length
  · have hlt' : (k : Int) < M.length := by omega
    have g := rdP hlt
    simp only [eP] at g
    repeat' first
      | with_reducible refine k_seq ?_
      | with_reducible refine k_skip ?_
      | with_reducible refine k_blkS ?_
      | with_reducible refine k_blkR ?_
      | with_reducible refine k_blkC ?_
      | with_reducible refine k_blkH ?_
      | with_reducible refine k_blkB ?_
      | with_reducible refine k_blkK ?_
      | with_reducible refine k_blkE ?_
      | with_reducible refine k_reg ?_
      | with_reducible refine k_head (by with_unfolding_all rfl) ?_
      | with_reducible refine k_headS ?_
      | (with_reducible refine SepK.mk ?_ ?_; (refine sepQ_P ?_; simp [sepQ, sepG, AOp.late, AOp.free, AOp.xs, AOp.isAl, tokNe, AV.tok, stS_get, strip, AX.val, c32r0, c32r1, c32r2, c32r3, c32r4, c32r5, c32r6, c32r7, c32r9, GA]; try omega))
      | with_reducible refine r_done ?_
      | with_reducible refine hr_done ?_
      | with_reducible refine s_go (by simp (disch := omega) only [hlt', g, c32r0, c32r1, c32r2, c32r3, c32r4, c32r5, c32r6, c32r7, c32r9, EV0, EV1, EV2, EV3, EV4, EV5, EV6, EV7, EV8, VALS, plug, ite_same, decide_true, decide_false, eq_self, ↓reduceIte, reduceCtorEq, Nat.reduceAdd, Nat.reduceEqDiff, Nat.reduceLT, Nat.reduceLeDiff, Nat.reduceMul, Nat.reduceSub, Nat.reduceDiv, Int.reduceToNat, Int.reduceAdd, Int.reduceSub, Int.reduceMul, Int.reduceNeg, Int.reduceEq, Int.reduceLT, Int.reduceLE]; with_reducible rfl) ?_
      | with_reducible refine h_go (by with_unfolding_all rfl) (by simp (disch := omega) only [hlt', g, c32r0, c32r1, c32r2, c32r3, c32r4, c32r5, c32r6, c32r7, c32r9, EV0, EV1, EV2, EV3, EV4, EV5, EV6, EV7, EV8, VALS, plug, ite_same, decide_true, decide_false, eq_self, ↓reduceIte, reduceCtorEq, Nat.reduceAdd, Nat.reduceEqDiff, Nat.reduceLT, Nat.reduceLeDiff, Nat.reduceMul, Nat.reduceSub, Nat.reduceDiv, Int.reduceToNat, Int.reduceAdd, Int.reduceSub, Int.reduceMul, Int.reduceNeg, Int.reduceEq, Int.reduceLT, Int.reduceLE]; with_reducible rfl) ?_
      | ((with_reducible refine chk_r ?_); refine r_callF (by simp only [CA, Nat.reduceEqDiff, ↓reduceIte]; rfl) (by exact rfl) (by simp only [CA, Nat.reduceEqDiff, ↓reduceIte]; rfl) rfl ?_)
      | ((with_reducible refine chk_h ?_); refine hr_callF (by simp only [CA, Nat.reduceEqDiff, ↓reduceIte]; rfl) (by exact rfl) (by simp only [CA, Nat.reduceEqDiff, ↓reduceIte]; rfl) rfl ?_)
      | ((with_reducible refine chk_h ?_); refine hr_app (by simp (disch := omega) only [hlt', g, c32r0, c32r1, c32r2, c32r3, c32r4, c32r5, c32r6, c32r7, c32r9, EV0, EV1, EV2, EV3, EV4, EV5, EV6, EV7, EV8, VALS, plug, ite_same, decide_true, decide_false, eq_self, ↓reduceIte, reduceCtorEq, Nat.reduceAdd, Nat.reduceEqDiff, Nat.reduceLT, Nat.reduceLeDiff, Nat.reduceMul, Nat.reduceSub, Nat.reduceDiv, Int.reduceToNat, Int.reduceAdd, Int.reduceSub, Int.reduceMul, Int.reduceNeg, Int.reduceEq, Int.reduceLT, Int.reduceLE]; with_reducible rfl) rfl ?_)
      | (with_reducible refine k_condP (by simp only [GA, Nat.reduceEqDiff, ↓reduceIte]; rfl) (by first | (simp only [BO]; rfl) | rfl) (fun ht => ?_) (fun ht => ?_) <;> try (first | exact False.elim ht | exact absurd rfl ht | exact absurd trivial ht | exact Bool.noConfusion ht))
      | (with_reducible refine k_ret ?_; repeat with_reducible (first | refine ret_thru ?_ | refine ret_blk ?_ | refine fin ?_))
      | (with_reducible refine k_exit ?_; repeat with_reducible (first | refine thru ?_ | refine out_blk ?_ | refine pass (by decide) ?_))
      | (refine post1 ?_; simp only [GA, Nat.reduceEqDiff, ↓reduceIte])
      | (refine post2 ?_; simp only [GA, Nat.reduceEqDiff, ↓reduceIte])
      | (refine post3 ?_; simp only [GA, Nat.reduceEqDiff, ↓reduceIte])
      | (refine postc (by simp only [GA, Nat.reduceEqDiff, ↓reduceIte]; rfl) (by simp (disch := omega) only [hlt', g, c32r0, c32r1, c32r2, c32r3, c32r4, c32r5, c32r6, c32r7, c32r9, EV0, EV1, EV2, EV3, EV4, EV5, EV6, EV7, EV8, VALS, plug, ite_same, decide_true, decide_false, eq_self, ↓reduceIte, reduceCtorEq, Nat.reduceAdd, Nat.reduceEqDiff, Nat.reduceLT, Nat.reduceLeDiff, Nat.reduceMul, Nat.reduceSub, Nat.reduceDiv, Int.reduceToNat, Int.reduceAdd, Int.reduceSub, Int.reduceMul, Int.reduceNeg, Int.reduceEq, Int.reduceLT, Int.reduceLE]; rfl) ?_)
      | refine post0 ?_
    exact ⟨hlt, (), (by simp only [Am.keep, List.map_cons, List.map_nil, GA, Nat.reduceEqDiff, ↓reduceIte]; try rfl), trivial⟩
  · obtain rfl : k = M.length := by omega
    have hlt' : ¬ (M.length : Int) < M.length := by omega
    repeat' first
      | with_reducible refine k_seq ?_
      | with_reducible refine k_skip ?_
      | with_reducible refine k_blkS ?_
      | with_reducible refine k_blkR ?_
      | with_reducible refine k_blkC ?_
      | with_reducible refine k_blkH ?_
      | with_reducible refine k_blkB ?_
      | with_reducible refine k_blkK ?_
      | with_reducible refine k_blkE ?_
      | with_reducible refine k_reg ?_
      | with_reducible refine k_head (by with_unfolding_all rfl) ?_
      | with_reducible refine k_headS ?_
      | (with_reducible refine SepK.mk ?_ ?_; (refine sepQ_P ?_; simp [sepQ, sepG, AOp.late, AOp.free, AOp.xs, AOp.isAl, tokNe, AV.tok, stS_get, strip, AX.val, c32r0, c32r1, c32r2, c32r3, c32r4, c32r5, c32r6, c32r7, c32r9, GA]; try omega))
      | with_reducible refine r_done ?_
      | with_reducible refine hr_done ?_
      | with_reducible refine s_go (by simp (disch := omega) only [hlt', c32r0, c32r1, c32r2, c32r3, c32r4, c32r5, c32r6, c32r7, c32r9, EV0, EV1, EV2, EV3, EV4, EV5, EV6, EV7, EV8, VALS, plug, ite_same, decide_true, decide_false, eq_self, ↓reduceIte, reduceCtorEq, Nat.reduceAdd, Nat.reduceEqDiff, Nat.reduceLT, Nat.reduceLeDiff, Nat.reduceMul, Nat.reduceSub, Nat.reduceDiv, Int.reduceToNat, Int.reduceAdd, Int.reduceSub, Int.reduceMul, Int.reduceNeg, Int.reduceEq, Int.reduceLT, Int.reduceLE]; with_reducible rfl) ?_
      | with_reducible refine h_go (by with_unfolding_all rfl) (by simp (disch := omega) only [hlt', c32r0, c32r1, c32r2, c32r3, c32r4, c32r5, c32r6, c32r7, c32r9, EV0, EV1, EV2, EV3, EV4, EV5, EV6, EV7, EV8, VALS, plug, ite_same, decide_true, decide_false, eq_self, ↓reduceIte, reduceCtorEq, Nat.reduceAdd, Nat.reduceEqDiff, Nat.reduceLT, Nat.reduceLeDiff, Nat.reduceMul, Nat.reduceSub, Nat.reduceDiv, Int.reduceToNat, Int.reduceAdd, Int.reduceSub, Int.reduceMul, Int.reduceNeg, Int.reduceEq, Int.reduceLT, Int.reduceLE]; with_reducible rfl) ?_
      | ((with_reducible refine chk_r ?_); refine r_callF (by simp only [CA, Nat.reduceEqDiff, ↓reduceIte]; rfl) (by exact rfl) (by simp only [CA, Nat.reduceEqDiff, ↓reduceIte]; rfl) rfl ?_)
      | ((with_reducible refine chk_h ?_); refine hr_callF (by simp only [CA, Nat.reduceEqDiff, ↓reduceIte]; rfl) (by exact rfl) (by simp only [CA, Nat.reduceEqDiff, ↓reduceIte]; rfl) rfl ?_)
      | ((with_reducible refine chk_h ?_); refine hr_app (by simp (disch := omega) only [hlt', c32r0, c32r1, c32r2, c32r3, c32r4, c32r5, c32r6, c32r7, c32r9, EV0, EV1, EV2, EV3, EV4, EV5, EV6, EV7, EV8, VALS, plug, ite_same, decide_true, decide_false, eq_self, ↓reduceIte, reduceCtorEq, Nat.reduceAdd, Nat.reduceEqDiff, Nat.reduceLT, Nat.reduceLeDiff, Nat.reduceMul, Nat.reduceSub, Nat.reduceDiv, Int.reduceToNat, Int.reduceAdd, Int.reduceSub, Int.reduceMul, Int.reduceNeg, Int.reduceEq, Int.reduceLT, Int.reduceLE]; with_reducible rfl) rfl ?_)
      | (with_reducible refine k_condP (by simp only [GA, Nat.reduceEqDiff, ↓reduceIte]; rfl) (by first | (simp only [BO]; rfl) | rfl) (fun ht => ?_) (fun ht => ?_) <;> try (first | exact False.elim ht | exact absurd rfl ht | exact absurd trivial ht | exact Bool.noConfusion ht))
      | (with_reducible refine k_ret ?_; repeat with_reducible (first | refine ret_thru ?_ | refine ret_blk ?_ | refine fin ?_))
      | (with_reducible refine k_exit ?_; repeat with_reducible (first | refine thru ?_ | refine out_blk ?_ | refine pass (by decide) ?_))
      | (refine post1 ?_; simp only [GA, Nat.reduceEqDiff, ↓reduceIte])
      | (refine post2 ?_; simp only [GA, Nat.reduceEqDiff, ↓reduceIte])
      | (refine post3 ?_; simp only [GA, Nat.reduceEqDiff, ↓reduceIte])
      | (refine postc (by simp only [GA, Nat.reduceEqDiff, ↓reduceIte]; rfl) (by simp (disch := omega) only [hlt', c32r0, c32r1, c32r2, c32r3, c32r4, c32r5, c32r6, c32r7, c32r9, EV0, EV1, EV2, EV3, EV4, EV5, EV6, EV7, EV8, VALS, plug, ite_same, decide_true, decide_false, eq_self, ↓reduceIte, reduceCtorEq, Nat.reduceAdd, Nat.reduceEqDiff, Nat.reduceLT, Nat.reduceLeDiff, Nat.reduceMul, Nat.reduceSub, Nat.reduceDiv, Int.reduceToNat, Int.reduceAdd, Int.reduceSub, Int.reduceMul, Int.reduceNeg, Int.reduceEq, Int.reduceLT, Int.reduceLE]; rfl) ?_)
      | refine post0 ?_
    all_goals first | exact ends_of | exact ends_eq rfl
end Go.Proofs.Ytbhkbaapfioijaa
set_option linter.unusedVariables false
set_option linter.unusedSimpArgs false
namespace Go.Proofs.Ytbhkbaapfioijaa
open Go Go.Am Go.Proofs Go.Sort
/-! ### The document's Rest, from its match -/
theorem pc31 (l : List T) (hl : l.length ≤ 9223372036854775807) (tol : Int) (q64 : VL l → PC Try.prog 64 [vT l, .i .i64 tol] (vP (matchL l tol))) : PC Try.prog 31 [vT l, .i .i64 tol] (.tu [.vs (resR l tol).length (nl (resR l tol)), .i .i64 (asked l tol)]) := by
  refine pc_fn fn31 (by simp only [AV.plains, AV.plain, il_plain, bl_plain, Bool.and_true, Bool.true_and, Bool.and_self, flT_plain, nl_plain]) (by simp only [AV.plains, AV.plain, il_plain, bl_plain, Bool.and_true, Bool.true_and, Bool.and_self, flT_plain, nl_plain]) (Nat.le_of_ble_eq_true rfl) ?_
  rw [initSt2]
  have q := pc55 l hl tol
  unfold resR
  by_cases h0 : asked l tol = 0
  · have hv := (asked_ok h0).1
    have hl6 := hv.len
    have q64 := q64 hv
    rw [if_pos h0]
    rw [h0] at q ⊢
    have hA : (matchL l tol).length ≤ 9 * l.length := mc_len l tol 9
    generalize matchL l tol = M at q64 hA ⊢
    repeat' first
      | with_reducible refine k_seq ?_
      | with_reducible refine k_skip ?_
      | with_reducible refine k_blkS ?_
      | with_reducible refine k_blkR ?_
      | with_reducible refine k_blkC ?_
      | with_reducible refine k_blkH ?_
      | with_reducible refine k_blkB ?_
      | with_reducible refine k_blkK ?_
      | with_reducible refine k_blkE ?_
      | with_reducible refine k_reg ?_
      | with_reducible refine r_done ?_
      | with_reducible refine s_go (by simp (disch := omega) only [c31r0, c31r1, c31r2, c31r3, c31r4, c31r5, c31r6, c31r7, c31r8, c31r9, c31r10, c31r11, c31r12, c31r14, c31r15, c31r16, c31r18, EV0, EV1, EV2, EV3, EV4, EV5, EV6, EV7, EV8, VALS, plug, ite_same, decide_true, decide_false, eq_self, ↓reduceIte, reduceCtorEq, Nat.reduceAdd, Nat.reduceEqDiff, Nat.reduceLT, Nat.reduceLeDiff, Nat.reduceMul, Nat.reduceSub, Nat.reduceDiv, Int.reduceToNat, Int.reduceAdd, Int.reduceSub, Int.reduceMul, Int.reduceNeg, Int.reduceEq, Int.reduceLT, Int.reduceLE]; with_reducible rfl) ?_
      | ((with_reducible refine chk_r ?_); refine r_callF (by simp only [CA, Nat.reduceEqDiff, ↓reduceIte]; rfl) (by exact rfl) (by simp only [CA, Nat.reduceEqDiff, ↓reduceIte]; rfl) rfl ?_)
      | ((with_reducible refine chk_r ?_); refine r_callP (by simp only [CA, Nat.reduceEqDiff, ↓reduceIte]; rfl) (by simp only [CA, Nat.reduceEqDiff, ↓reduceIte]; rfl) (by first | exact q _ | exact q64 _) rfl ?_)
      | (with_reducible refine k_condP (by simp only [GA, Nat.reduceEqDiff, ↓reduceIte]; rfl) (by first | (simp only [BO]; rfl) | rfl) (fun ht => ?_) (fun ht => ?_) <;> try (first | exact False.elim ht | exact absurd rfl ht | exact absurd trivial ht | exact Bool.noConfusion ht))
      | (with_reducible refine k_ret ?_; repeat with_reducible (first | refine ret_thru ?_ | refine ret_blk ?_ | refine fin ?_))
      | (with_reducible refine k_exit ?_; repeat with_reducible (first | refine thru ?_ | refine out_blk ?_ | refine pass (by decide) ?_))
      | (refine post1 ?_; simp only [GA, Nat.reduceEqDiff, ↓reduceIte])
      | (refine post2 ?_; simp only [GA, Nat.reduceEqDiff, ↓reduceIte])
      | (refine post3 ?_; simp only [GA, Nat.reduceEqDiff, ↓reduceIte])
      | (refine postc (by simp only [GA, Nat.reduceEqDiff, ↓reduceIte]; rfl) (by simp (disch := omega) only [c31r0, c31r1, c31r2, c31r3, c31r4, c31r5, c31r6, c31r7, c31r8, c31r9, c31r10, c31r11, c31r12, c31r14, c31r15, c31r16, c31r18, EV0, EV1, EV2, EV3, EV4, EV5, EV6, EV7, EV8, VALS, plug, ite_same, decide_true, decide_false, eq_self, ↓reduceIte, reduceCtorEq, Nat.reduceAdd, Nat.reduceEqDiff, Nat.reduceLT, Nat.reduceLeDiff, Nat.reduceMul, Nat.reduceSub, Nat.reduceDiv, Int.reduceToNat, Int.reduceAdd, Int.reduceSub, Int.reduceMul, Int.reduceNeg, Int.reduceEq, Int.reduceLT, Int.reduceLE]; rfl) ?_)
      | refine post0 ?_
    refine w_virt 1 8 rfl ?_
    refine k_blk (k_loopS (X := Nat) [0, 7, 8, 9] l.length (fun k y => [(0, vT l), (7, vP M), (8, .sl y 0 (rst l M k).length 1), (9, .i .i64 (k : Int))])
      (fun k y h => y ≠ 0 ∧ h.m y = some (.cells true (nl (rst l M k)))) _ (by simp only [Am.keep, List.map_cons, List.map_nil, GA, Nat.reduceEqDiff, ↓reduceIte]; try rfl) ⟨by simp [H1, AH.bump, AH.set], by simp (disch := omega) only [c31r0, c31r1, c31r2, c31r3, c31r4, c31r5, c31r6, c31r7, c31r8, c31r9, c31r10, c31r11, c31r12, c31r14, c31r15, c31r16, c31r18, EV0, EV1, EV2, EV3, EV4, EV5, EV6, EV7, EV8, VALS, plug, ite_same, decide_true, decide_false, eq_self, ↓reduceIte, reduceCtorEq, Nat.reduceAdd, Nat.reduceEqDiff, Nat.reduceLT, Nat.reduceLeDiff, Nat.reduceMul, Nat.reduceSub, Nat.reduceDiv, Int.reduceToNat, Int.reduceAdd, Int.reduceSub, Int.reduceMul, Int.reduceNeg, Int.reduceEq, Int.reduceLT, Int.reduceLE] <;> rfl⟩ ?_)
    rintro k y h hk ⟨hy, hmy⟩ ok pos
    have hy' := ok.m hmy
    have rl := rst_len l M k
    by_cases hlt : k < l.length
    · have hlt' : (k : Int) < l.length := by omega
      have rs := rst_succ l M k
      repeat' first
        | with_reducible refine k_seq ?_
        | with_reducible refine k_skip ?_
        | with_reducible refine k_blkS ?_
        | with_reducible refine k_blkR ?_
        | with_reducible refine k_blkC ?_
        | with_reducible refine k_blkH ?_
        | with_reducible refine k_blkB ?_
        | with_reducible refine k_blkK ?_
        | with_reducible refine k_blkE ?_
        | with_reducible refine k_reg ?_
        | with_reducible refine r_done ?_
        | with_reducible refine s_go (by simp (disch := omega) only [hlt', c31r0, c31r1, c31r2, c31r3, c31r4, c31r5, c31r6, c31r7, c31r8, c31r9, c31r10, c31r11, c31r12, c31r14, c31r15, c31r16, c31r18, EV0, EV1, EV2, EV3, EV4, EV5, EV6, EV7, EV8, VALS, plug, ite_same, decide_true, decide_false, eq_self, ↓reduceIte, reduceCtorEq, Nat.reduceAdd, Nat.reduceEqDiff, Nat.reduceLT, Nat.reduceLeDiff, Nat.reduceMul, Nat.reduceSub, Nat.reduceDiv, Int.reduceToNat, Int.reduceAdd, Int.reduceSub, Int.reduceMul, Int.reduceNeg, Int.reduceEq, Int.reduceLT, Int.reduceLE]; with_reducible rfl) ?_
        | ((with_reducible refine chk_r ?_); refine r_callF (by simp only [CA, Nat.reduceEqDiff, ↓reduceIte]; rfl) (by exact rfl) (by simp only [CA, Nat.reduceEqDiff, ↓reduceIte]; rfl) rfl ?_)
        | (with_reducible refine k_condP (by simp only [GA, Nat.reduceEqDiff, ↓reduceIte]; rfl) (by first | (simp only [BO]; rfl) | rfl) (fun ht => ?_) (fun ht => ?_) <;> try (first | exact False.elim ht | exact absurd rfl ht | exact absurd trivial ht | exact Bool.noConfusion ht))
        | (with_reducible refine k_ret ?_; repeat with_reducible (first | refine ret_thru ?_ | refine ret_blk ?_ | refine fin ?_))
        | (with_reducible refine k_exit ?_; repeat with_reducible (first | refine thru ?_ | refine out_blk ?_ | refine pass (by decide) ?_))
        | (refine post1 ?_; simp only [GA, Nat.reduceEqDiff, ↓reduceIte])
        | (refine post2 ?_; simp only [GA, Nat.reduceEqDiff, ↓reduceIte])
        | (refine post3 ?_; simp only [GA, Nat.reduceEqDiff, ↓reduceIte])
        | (refine postc (by simp only [GA, Nat.reduceEqDiff, ↓reduceIte]; rfl) (by simp (disch := omega) only [hlt', c31r0, c31r1, c31r2, c31r3, c31r4, c31r5, c31r6, c31r7, c31r8, c31r9, c31r10, c31r11, c31r12, c31r14, c31r15, c31r16, c31r18, EV0, EV1, EV2, EV3, EV4, EV5, EV6, EV7, EV8, VALS, plug, ite_same, decide_true, decide_false, eq_self, ↓reduceIte, reduceCtorEq, Nat.reduceAdd, Nat.reduceEqDiff, Nat.reduceLT, Nat.reduceLeDiff, Nat.reduceMul, Nat.reduceSub, Nat.reduceDiv, Int.reduceToNat, Int.reduceAdd, Int.reduceSub, Int.reduceMul, Int.reduceNeg, Int.reduceEq, Int.reduceLT, Int.reduceLE]; rfl) ?_)
        | refine post0 ?_
      refine k_blk (k_loopS (X := Unit) [0, 7, 8, 9, 10, 11] M.length (fun j _ => [(0, vT l), (7, vP M), (8, .sl y 0 (rst l M k).length 1), (9, .i .i64 (k : Int)), (10, .b (inP M j k)), (11, .i .i64 (j : Int))])
        (fun j _ h => h.m y = some (.cells true (nl (rst l M k)))) () (by simp only [Am.keep, List.map_cons, List.map_nil, GA, Nat.reduceEqDiff, ↓reduceIte]; try rfl) (by simp (disch := omega) only [hmy, c31r0, c31r1, c31r2, c31r3, c31r4, c31r5, c31r6, c31r7, c31r8, c31r9, c31r10, c31r11, c31r12, c31r14, c31r15, c31r16, c31r18, EV0, EV1, EV2, EV3, EV4, EV5, EV6, EV7, EV8, VALS, plug, ite_same, decide_true, decide_false, eq_self, ↓reduceIte, reduceCtorEq, Nat.reduceAdd, Nat.reduceEqDiff, Nat.reduceLT, Nat.reduceLeDiff, Nat.reduceMul, Nat.reduceSub, Nat.reduceDiv, Int.reduceToNat, Int.reduceAdd, Int.reduceSub, Int.reduceMul, Int.reduceNeg, Int.reduceEq, Int.reduceLT, Int.reduceLE]) ?_)
      rintro j _ h hj hmy ok pos
      have hy' := ok.m hmy
      by_cases jlt : j < M.length
      · have jlt' : (j : Int) < M.length := by omega
        have g0 := getP0 jlt
        have g1 := getP1 jlt
        have is := inP_succ jlt k
        have is' : inP M (j + 1) k = (inP M j k || decide (((M.getD j (0, 0)).1 : Int) = k) || decide (((M.getD j (0, 0)).2 : Int) = k)) := by
          rw [is]
          cases inP M j k
          · simp only [Bool.false_or]
            rw [Bool.eq_iff_iff]
            simp only [Bool.or_eq_true, beq_iff_eq, decide_eq_true_eq]
            omega
          · simp only [Bool.true_or]
        repeat' first
          | with_reducible refine k_seq ?_
          | with_reducible refine k_skip ?_
          | with_reducible refine k_blkS ?_
          | with_reducible refine k_blkR ?_
          | with_reducible refine k_blkC ?_
          | with_reducible refine k_blkH ?_
          | with_reducible refine k_blkB ?_
          | with_reducible refine k_blkK ?_
          | with_reducible refine k_blkE ?_
          | with_reducible refine k_reg ?_
          | with_reducible refine r_done ?_
          | with_reducible refine s_go (by simp (disch := omega) only [jlt', g0, g1, c31r0, c31r1, c31r2, c31r3, c31r4, c31r5, c31r6, c31r7, c31r8, c31r9, c31r10, c31r11, c31r12, c31r14, c31r15, c31r16, c31r18, EV0, EV1, EV2, EV3, EV4, EV5, EV6, EV7, EV8, VALS, plug, ite_same, decide_true, decide_false, eq_self, ↓reduceIte, reduceCtorEq, Nat.reduceAdd, Nat.reduceEqDiff, Nat.reduceLT, Nat.reduceLeDiff, Nat.reduceMul, Nat.reduceSub, Nat.reduceDiv, Int.reduceToNat, Int.reduceAdd, Int.reduceSub, Int.reduceMul, Int.reduceNeg, Int.reduceEq, Int.reduceLT, Int.reduceLE]; with_reducible rfl) ?_
          | ((with_reducible refine chk_r ?_); refine r_callF (by simp only [CA, Nat.reduceEqDiff, ↓reduceIte]; rfl) (by exact rfl) (by simp only [CA, Nat.reduceEqDiff, ↓reduceIte]; rfl) rfl ?_)
          | (with_reducible refine k_condP (by simp only [GA, Nat.reduceEqDiff, ↓reduceIte]; rfl) (by first | (simp only [BO]; rfl) | rfl) (fun ht => ?_) (fun ht => ?_) <;> try (first | exact False.elim ht | exact absurd rfl ht | exact absurd trivial ht | exact Bool.noConfusion ht))
          | (with_reducible refine k_ret ?_; repeat with_reducible (first | refine ret_thru ?_ | refine ret_blk ?_ | refine fin ?_))
          | (with_reducible refine k_exit ?_; repeat with_reducible (first | refine thru ?_ | refine out_blk ?_ | refine pass (by decide) ?_))
          | (refine post1 ?_; simp only [GA, Nat.reduceEqDiff, ↓reduceIte])
          | (refine post2 ?_; simp only [GA, Nat.reduceEqDiff, ↓reduceIte])
          | (refine post3 ?_; simp only [GA, Nat.reduceEqDiff, ↓reduceIte])
          | (refine postc (by simp only [GA, Nat.reduceEqDiff, ↓reduceIte]; rfl) (by simp (disch := omega) only [jlt', g0, g1, c31r0, c31r1, c31r2, c31r3, c31r4, c31r5, c31r6, c31r7, c31r8, c31r9, c31r10, c31r11, c31r12, c31r14, c31r15, c31r16, c31r18, EV0, EV1, EV2, EV3, EV4, EV5, EV6, EV7, EV8, VALS, plug, ite_same, decide_true, decide_false, eq_self, ↓reduceIte, reduceCtorEq, Nat.reduceAdd, Nat.reduceEqDiff, Nat.reduceLT, Nat.reduceLeDiff, Nat.reduceMul, Nat.reduceSub, Nat.reduceDiv, Int.reduceToNat, Int.reduceAdd, Int.reduceSub, Int.reduceMul, Int.reduceNeg, Int.reduceEq, Int.reduceLT, Int.reduceLE]; rfl) ?_)
          | refine post0 ?_
        rw [is']
        exact ⟨jlt, (), (by simp only [Am.keep, List.map_cons, List.map_nil, GA, Nat.reduceEqDiff, ↓reduceIte]; try rfl), by simp (disch := omega) only [hmy, c31r0, c31r1, c31r2, c31r3, c31r4, c31r5, c31r6, c31r7, c31r8, c31r9, c31r10, c31r11, c31r12, c31r14, c31r15, c31r16, c31r18, EV0, EV1, EV2, EV3, EV4, EV5, EV6, EV7, EV8, VALS, plug, ite_same, decide_true, decide_false, eq_self, ↓reduceIte, reduceCtorEq, Nat.reduceAdd, Nat.reduceEqDiff, Nat.reduceLT, Nat.reduceLeDiff, Nat.reduceMul, Nat.reduceSub, Nat.reduceDiv, Int.reduceToNat, Int.reduceAdd, Int.reduceSub, Int.reduceMul, Int.reduceNeg, Int.reduceEq, Int.reduceLT, Int.reduceLE]⟩
      · obtain rfl : j = M.length := by omega
        have jlt' : ¬ (M.length : Int) < M.length := by omega
        repeat' first
          | with_reducible refine k_seq ?_
          | with_reducible refine k_skip ?_
          | with_reducible refine k_blkS ?_
          | with_reducible refine k_blkR ?_
          | with_reducible refine k_blkC ?_
          | with_reducible refine k_blkH ?_
          | with_reducible refine k_blkB ?_
          | with_reducible refine k_blkK ?_
          | with_reducible refine k_blkE ?_
          | with_reducible refine k_reg ?_
          | with_reducible refine r_done ?_
          | with_reducible refine s_go (by simp (disch := omega) only [jlt', hmy, nl_len, nl_snoc, hy, c31r0, c31r1, c31r2, c31r3, c31r4, c31r5, c31r6, c31r7, c31r8, c31r9, c31r10, c31r11, c31r12, c31r14, c31r15, c31r16, c31r18, EV0, EV1, EV2, EV3, EV4, EV5, EV6, EV7, EV8, VALS, plug, ite_same, decide_true, decide_false, eq_self, ↓reduceIte, reduceCtorEq, Nat.reduceAdd, Nat.reduceEqDiff, Nat.reduceLT, Nat.reduceLeDiff, Nat.reduceMul, Nat.reduceSub, Nat.reduceDiv, Int.reduceToNat, Int.reduceAdd, Int.reduceSub, Int.reduceMul, Int.reduceNeg, Int.reduceEq, Int.reduceLT, Int.reduceLE]; with_reducible rfl) ?_
          | ((with_reducible refine chk_r ?_); refine r_callF (by simp only [CA, Nat.reduceEqDiff, ↓reduceIte]; rfl) (by exact rfl) (by simp only [CA, Nat.reduceEqDiff, ↓reduceIte]; rfl) rfl ?_)
          | (with_reducible refine k_condP (by simp only [GA, Nat.reduceEqDiff, ↓reduceIte]; rfl) (by first | (simp only [BO]; rfl) | rfl) (fun ht => ?_) (fun ht => ?_) <;> try (first | exact False.elim ht | exact absurd rfl ht | exact absurd trivial ht | exact Bool.noConfusion ht))
          | (with_reducible refine k_ret ?_; repeat with_reducible (first | refine ret_thru ?_ | refine ret_blk ?_ | refine fin ?_))
          | (with_reducible refine k_exit ?_; repeat with_reducible (first | refine thru ?_ | refine out_blk ?_ | refine pass (by decide) ?_))
          | (refine post1 ?_; simp only [GA, Nat.reduceEqDiff, ↓reduceIte])
          | (refine post2 ?_; simp only [GA, Nat.reduceEqDiff, ↓reduceIte])
          | (refine post3 ?_; simp only [GA, Nat.reduceEqDiff, ↓reduceIte])
          | (refine postc (by simp only [GA, Nat.reduceEqDiff, ↓reduceIte]; rfl) (by simp (disch := omega) only [jlt', hmy, nl_len, nl_snoc, hy, c31r0, c31r1, c31r2, c31r3, c31r4, c31r5, c31r6, c31r7, c31r8, c31r9, c31r10, c31r11, c31r12, c31r14, c31r15, c31r16, c31r18, EV0, EV1, EV2, EV3, EV4, EV5, EV6, EV7, EV8, VALS, plug, ite_same, decide_true, decide_false, eq_self, ↓reduceIte, reduceCtorEq, Nat.reduceAdd, Nat.reduceEqDiff, Nat.reduceLT, Nat.reduceLeDiff, Nat.reduceMul, Nat.reduceSub, Nat.reduceDiv, Int.reduceToNat, Int.reduceAdd, Int.reduceSub, Int.reduceMul, Int.reduceNeg, Int.reduceEq, Int.reduceLT, Int.reduceLE]; rfl) ?_)
          | refine post0 ?_
        · rw [if_pos ht] at rs
          rw [rs]
          refine ⟨hlt, ?tk, ?g1, ?g2, ?g3⟩
          case g1 =>
            simp only [Am.keep, List.map_cons, List.map_nil, GA, Nat.reduceEqDiff, ↓reduceIte, List.length_append, List.length_cons, List.length_nil, Nat.zero_add]
            rfl
          case g2 => omega
          case g3 => simp (disch := omega) only [c31r0, c31r1, c31r2, c31r3, c31r4, c31r5, c31r6, c31r7, c31r8, c31r9, c31r10, c31r11, c31r12, c31r14, c31r15, c31r16, c31r18, EV0, EV1, EV2, EV3, EV4, EV5, EV6, EV7, EV8, VALS, plug, ite_same, decide_true, decide_false, eq_self, ↓reduceIte, reduceCtorEq, Nat.reduceAdd, Nat.reduceEqDiff, Nat.reduceLT, Nat.reduceLeDiff, Nat.reduceMul, Nat.reduceSub, Nat.reduceDiv, Int.reduceToNat, Int.reduceAdd, Int.reduceSub, Int.reduceMul, Int.reduceNeg, Int.reduceEq, Int.reduceLT, Int.reduceLE] <;> rfl
        · rw [if_neg ht] at rs
          rw [rs]
          exact ⟨hlt, y, (by simp only [Am.keep, List.map_cons, List.map_nil, GA, Nat.reduceEqDiff, ↓reduceIte]; try rfl), hy, by simp (disch := omega) only [hmy, c31r0, c31r1, c31r2, c31r3, c31r4, c31r5, c31r6, c31r7, c31r8, c31r9, c31r10, c31r11, c31r12, c31r14, c31r15, c31r16, c31r18, EV0, EV1, EV2, EV3, EV4, EV5, EV6, EV7, EV8, VALS, plug, ite_same, decide_true, decide_false, eq_self, ↓reduceIte, reduceCtorEq, Nat.reduceAdd, Nat.reduceEqDiff, Nat.reduceLT, Nat.reduceLeDiff, Nat.reduceMul, Nat.reduceSub, Nat.reduceDiv, Int.reduceToNat, Int.reduceAdd, Int.reduceSub, Int.reduceMul, Int.reduceNeg, Int.reduceEq, Int.reduceLT, Int.reduceLE]⟩
    · obtain rfl : k = l.length := by omega
      have hlt' : ¬ (l.length : Int) < l.length := by omega
      repeat' first
        | with_reducible refine k_seq ?_
        | with_reducible refine k_skip ?_
        | with_reducible refine k_blkS ?_
        | with_reducible refine k_blkR ?_
        | with_reducible refine k_blkC ?_
        | with_reducible refine k_blkH ?_
        | with_reducible refine k_blkB ?_
        | with_reducible refine k_blkK ?_
        | with_reducible refine k_blkE ?_
        | with_reducible refine k_reg ?_
        | with_reducible refine r_done ?_
        | with_reducible refine s_go (by simp (disch := omega) only [hlt', c31r0, c31r1, c31r2, c31r3, c31r4, c31r5, c31r6, c31r7, c31r8, c31r9, c31r10, c31r11, c31r12, c31r14, c31r15, c31r16, c31r18, EV0, EV1, EV2, EV3, EV4, EV5, EV6, EV7, EV8, VALS, plug, ite_same, decide_true, decide_false, eq_self, ↓reduceIte, reduceCtorEq, Nat.reduceAdd, Nat.reduceEqDiff, Nat.reduceLT, Nat.reduceLeDiff, Nat.reduceMul, Nat.reduceSub, Nat.reduceDiv, Int.reduceToNat, Int.reduceAdd, Int.reduceSub, Int.reduceMul, Int.reduceNeg, Int.reduceEq, Int.reduceLT, Int.reduceLE]; with_reducible rfl) ?_
        | ((with_reducible refine chk_r ?_); refine r_callF (by simp only [CA, Nat.reduceEqDiff, ↓reduceIte]; rfl) (by exact rfl) (by simp only [CA, Nat.reduceEqDiff, ↓reduceIte]; rfl) rfl ?_)
        | (with_reducible refine k_condP (by simp only [GA, Nat.reduceEqDiff, ↓reduceIte]; rfl) (by first | (simp only [BO]; rfl) | rfl) (fun ht => ?_) (fun ht => ?_) <;> try (first | exact False.elim ht | exact absurd rfl ht | exact absurd trivial ht | exact Bool.noConfusion ht))
        | (with_reducible refine k_ret ?_; repeat with_reducible (first | refine ret_thru ?_ | refine ret_blk ?_ | refine fin ?_))
        | (with_reducible refine k_exit ?_; repeat with_reducible (first | refine thru ?_ | refine out_blk ?_ | refine pass (by decide) ?_))
        | (refine post1 ?_; simp only [GA, Nat.reduceEqDiff, ↓reduceIte])
        | (refine post2 ?_; simp only [GA, Nat.reduceEqDiff, ↓reduceIte])
        | (refine post3 ?_; simp only [GA, Nat.reduceEqDiff, ↓reduceIte])
        | (refine postc (by simp only [GA, Nat.reduceEqDiff, ↓reduceIte]; rfl) (by simp (disch := omega) only [hlt', c31r0, c31r1, c31r2, c31r3, c31r4, c31r5, c31r6, c31r7, c31r8, c31r9, c31r10, c31r11, c31r12, c31r14, c31r15, c31r16, c31r18, EV0, EV1, EV2, EV3, EV4, EV5, EV6, EV7, EV8, VALS, plug, ite_same, decide_true, decide_false, eq_self, ↓reduceIte, reduceCtorEq, Nat.reduceAdd, Nat.reduceEqDiff, Nat.reduceLT, Nat.reduceLeDiff, Nat.reduceMul, Nat.reduceSub, Nat.reduceDiv, Int.reduceToNat, Int.reduceAdd, Int.reduceSub, Int.reduceMul, Int.reduceNeg, Int.reduceEq, Int.reduceLT, Int.reduceLE]; rfl) ?_)
        | refine post0 ?_
      exact ends_sl2 (k := 1) hmy (by rw [nl_len, Nat.mul_one])
  · rw [if_neg h0]
    generalize asked l tol = A at q h0 ⊢
    repeat' first
      | with_reducible refine k_seq ?_
      | with_reducible refine k_skip ?_
      | with_reducible refine k_blkS ?_
      | with_reducible refine k_blkR ?_
      | with_reducible refine k_blkC ?_
      | with_reducible refine k_blkH ?_
      | with_reducible refine k_blkB ?_
      | with_reducible refine k_blkK ?_
      | with_reducible refine k_blkE ?_
      | with_reducible refine k_reg ?_
      | with_reducible refine r_done ?_
      | with_reducible refine s_go (by simp (disch := omega) only [h0, c31r0, c31r1, c31r2, c31r3, c31r4, c31r5, c31r6, c31r7, c31r8, c31r9, c31r10, c31r11, c31r12, c31r14, c31r15, c31r16, c31r18, EV0, EV1, EV2, EV3, EV4, EV5, EV6, EV7, EV8, VALS, plug, ite_same, decide_true, decide_false, eq_self, ↓reduceIte, reduceCtorEq, Nat.reduceAdd, Nat.reduceEqDiff, Nat.reduceLT, Nat.reduceLeDiff, Nat.reduceMul, Nat.reduceSub, Nat.reduceDiv, Int.reduceToNat, Int.reduceAdd, Int.reduceSub, Int.reduceMul, Int.reduceNeg, Int.reduceEq, Int.reduceLT, Int.reduceLE]; with_reducible rfl) ?_
      | ((with_reducible refine chk_r ?_); refine r_callF (by simp only [CA, Nat.reduceEqDiff, ↓reduceIte]; rfl) (by exact rfl) (by simp only [CA, Nat.reduceEqDiff, ↓reduceIte]; rfl) rfl ?_)
      | ((with_reducible refine chk_r ?_); refine r_callP (by simp only [CA, Nat.reduceEqDiff, ↓reduceIte]; rfl) (by simp only [CA, Nat.reduceEqDiff, ↓reduceIte]; rfl) (by first | exact q _) rfl ?_)
      | (with_reducible refine k_condP (by simp only [GA, Nat.reduceEqDiff, ↓reduceIte]; rfl) (by first | (simp only [BO]; rfl) | rfl) (fun ht => ?_) (fun ht => ?_) <;> try (first | exact False.elim ht | exact absurd rfl ht | exact absurd trivial ht | exact Bool.noConfusion ht))
      | (with_reducible refine k_ret ?_; repeat with_reducible (first | refine ret_thru ?_ | refine ret_blk ?_ | refine fin ?_))
      | (with_reducible refine k_exit ?_; repeat with_reducible (first | refine thru ?_ | refine out_blk ?_ | refine pass (by decide) ?_))
      | (refine post1 ?_; simp only [GA, Nat.reduceEqDiff, ↓reduceIte])
      | (refine post2 ?_; simp only [GA, Nat.reduceEqDiff, ↓reduceIte])
      | (refine post3 ?_; simp only [GA, Nat.reduceEqDiff, ↓reduceIte])
      | (refine postc (by simp only [GA, Nat.reduceEqDiff, ↓reduceIte]; rfl) (by simp (disch := omega) only [h0, c31r0, c31r1, c31r2, c31r3, c31r4, c31r5, c31r6, c31r7, c31r8, c31r9, c31r10, c31r11, c31r12, c31r14, c31r15, c31r16, c31r18, EV0, EV1, EV2, EV3, EV4, EV5, EV6, EV7, EV8, VALS, plug, ite_same, decide_true, decide_false, eq_self, ↓reduceIte, reduceCtorEq, Nat.reduceAdd, Nat.reduceEqDiff, Nat.reduceLT, Nat.reduceLeDiff, Nat.reduceMul, Nat.reduceSub, Nat.reduceDiv, Int.reduceToNat, Int.reduceAdd, Int.reduceSub, Int.reduceMul, Int.reduceNeg, Int.reduceEq, Int.reduceLT, Int.reduceLE]; rfl) ?_)
      | refine post0 ?_
    all_goals first | exact ends_nil2 | exact absurd trivial (by assumption)
end Go.Proofs.Ytbhkbaapfioijaa
set_option linter.unusedVariables false
set_option linter.unusedSimpArgs false
namespace Go.Proofs.Ytbhkbaapfioijaa
open Go Go.Am Go.Proofs Go.Sort
/-! ### The document's pairs: plain -/
/-- xs: the temples of a side and a colour that are not gone, the least first -/
structure Has (l : List T) (gs : List Bool) (s c : Int) (xs : List Nat) : Prop where
  iff : ∀ i, i ∈ xs ↔ i < l.length ∧ gs.getD i false = false ∧ onside l s c i = true
  nd : xs.Nodup
  srt : xs.Pairwise fun i k => ltT l k i = false
def hdI : List Nat → Int
  | [] => -1
  | a :: _ => a
theorem hdI_nil : hdI [] = -1 := rfl
theorem hdI_cons (a : Nat) (xs : List Nat) : hdI (a :: xs) = a := rfl
theorem side_srt (l : List T) (s c : Int) : (sideL l s c).Pairwise fun i k => ltT l k i = false := by
  have := List.pairwise_mergeSort (le := fun i k => !ltT l k i) (by
    intro a b c h1 h2
    simp only [ltT, Bool.not_eq_true', decide_eq_false_iff_not] at *
    omega) (by
    intro a b
    simp only [ltT, Bool.or_eq_true, Bool.not_eq_true', decide_eq_false_iff_not]
    omega) (sfil l s c l.length)
  exact this.imp fun h => by simpa using h
theorem onside_iff {l : List T} {s c : Int} {i : Nat} : onside l s c i = true ↔ (l.getD i T0).side = s ∧ (l.getD i T0).col = c := by simp [onside]
theorem Has.init {l : List T} {gs : List Bool} {s c : Int} (h : ∀ i, i < l.length → (l.getD i T0).col = c → gs.getD i false = false) : Has l gs s c (sideL l s c) where
  iff i := by
    rw [mem_side, onside_iff]
    constructor
    · rintro ⟨h1, h2, h3⟩; exact ⟨h1, h i h1 h3, h2, h3⟩
    · rintro ⟨h1, _, h2, h3⟩; exact ⟨h1, h2, h3⟩
  nd := side_nodup l s c
  srt := side_srt l s c
theorem lb_spec (l : List T) (gs : List Bool) (s c : Int) : ∀ k, (lb l gs s c k = -1 ∧ ∀ i, i < k → gs.getD i false = false → onside l s c i = true → False) ∨
    ∃ m : Nat, lb l gs s c k = m ∧ m < k ∧ gs.getD m false = false ∧ onside l s c m = true ∧ ∀ i, i < k → gs.getD i false = false → onside l s c i = true → ltT l i m = false
  | 0 => .inl ⟨rfl, fun i hi => by omega⟩
  | k + 1 => by
    have ih := lb_spec l gs s c k
    have e : lb l gs s c (k + 1) = if (gs.getD k false = true ∨ ¬ (l.getD k T0).side = s) ∨ ¬ (l.getD k T0).col = c then lb l gs s c k
      else if (lb l gs s c k < 0 ∨ (l.getD k T0).len < (l.getD (lb l gs s c k).toNat T0).len) ∨ ((l.getD k T0).len = (l.getD (lb l gs s c k).toNat T0).len ∧ (l.getD k T0).num < (l.getD (lb l gs s c k).toNat T0).num) then (k : Int) else lb l gs s c k := rfl
    by_cases hq : (gs.getD k false = true ∨ ¬ (l.getD k T0).side = s) ∨ ¬ (l.getD k T0).col = c
    · have no : gs.getD k false = false → onside l s c k = true → False := fun h1 h2 => by
        rw [onside_iff] at h2
        rcases hq with (q | q) | q
        · rw [h1] at q; cases q
        · exact q h2.1
        · exact q h2.2
      rw [if_pos hq] at e
      rw [e]
      rcases ih with ⟨h1, h2⟩ | ⟨m, h1, h2, h3, h4, h5⟩
      · refine .inl ⟨h1, fun i hi => ?_⟩
        by_cases hk : i = k
        · subst hk; exact no
        · exact h2 i (by omega)
      · refine .inr ⟨m, h1, by omega, h3, h4, fun i hi => ?_⟩
        by_cases hk : i = k
        · subst hk; exact fun a b => (no a b).elim
        · exact h5 i (by omega)
    · rw [if_neg hq] at e
      have yes : gs.getD k false = false ∧ onside l s c k = true := by
        rw [onside_iff]
        simp only [not_or, Decidable.not_not, Bool.not_eq_true] at hq
        exact ⟨hq.1.1, hq.1.2, hq.2⟩
      rw [e]
      rcases ih with ⟨h1, h2⟩ | ⟨m, h1, h2, h3, h4, h5⟩
      · rw [h1, if_pos (.inl (.inl (by omega)))]
        refine .inr ⟨k, rfl, by omega, yes.1, yes.2, fun i hi a b => ?_⟩
        by_cases hk : i = k
        · subst hk; simp [ltT]
        · exact (h2 i (by omega) a b).elim
      · rw [h1, Int.toNat_natCast]
        split
        · rename_i hc
          refine .inr ⟨k, rfl, by omega, yes.1, yes.2, fun i hi a b => ?_⟩
          by_cases hk : i = k
          · subst hk; simp [ltT]
          · have := h5 i (by omega) a b
            simp only [ltT, decide_eq_false_iff_not] at this ⊢
            omega
        · rename_i hc
          refine .inr ⟨m, rfl, by omega, h3, h4, fun i hi a b => ?_⟩
          by_cases hk : i = k
          · subst hk
            simp only [ltT, decide_eq_false_iff_not]
            omega
          · exact h5 i (by omega) a b
theorem Has.lb {l : List T} {gs : List Bool} {s c : Int} {xs : List Nat} (hv : VL l) (h : Has l gs s c xs) : lb l gs s c l.length = hdI xs := by
  rcases lb_spec l gs s c l.length with ⟨h1, h2⟩ | ⟨m, h1, h2, h3, h4, h5⟩
  · cases xs with
    | nil => exact h1
    | cons a xs =>
      obtain ⟨a1, a2, a3⟩ := (h.iff a).1 (by simp)
      exact (h2 a a1 a2 a3).elim
  · have hm := (h.iff m).2 ⟨h2, h3, h4⟩
    cases xs with
    | nil => cases hm
    | cons a xs =>
      obtain ⟨a1, a2, a3⟩ := (h.iff a).1 (by simp)
      have am := h5 a a1 a2 a3
      rw [h1]
      rcases List.mem_cons.1 hm with rfl | hm
      · rfl
      · have ma := (List.pairwise_cons.1 h.srt).1 m hm
        have hne : a ≠ m := fun e => by subst e; exact (List.nodup_cons.1 h.nd).1 hm
        exfalso
        simp only [ltT, decide_eq_false_iff_not] at am ma
        rcases Nat.lt_or_gt_of_ne hne with q | q
        · have := hv.2.2 a m q h2; omega
        · have := hv.2.2 m a q a1; omega
theorem gone_set {gs : List Bool} {a i n : Nat} (hg : gs.length = n) (ha : a < n) : (gs.set a true).getD i false = false ↔ gs.getD i false = false ∧ i ≠ a := by
  by_cases e : i = a
  · subst e; simp [List.getD_eq_getElem?_getD, hg, ha]
  · have : ¬ a = i := fun q => e q.symm
    simp [List.getD_eq_getElem?_getD, List.getElem?_set, this, e]
theorem Has.tail {l : List T} {gs : List Bool} {s c : Int} {a : Nat} {xs : List Nat} (hg : gs.length = l.length) (h : Has l gs s c (a :: xs)) : Has l (gs.set a true) s c xs where
  iff i := by
    have ha := ((h.iff a).1 (by simp)).1
    have hn := (List.nodup_cons.1 h.nd).1
    rw [gone_set hg ha]
    constructor
    · intro hi
      obtain ⟨h1, h2, h3⟩ := (h.iff i).1 (List.mem_cons_of_mem _ hi)
      exact ⟨h1, ⟨h2, fun e => hn (e ▸ hi)⟩, h3⟩
    · rintro ⟨h1, ⟨h2, h4⟩, h3⟩
      exact (List.mem_cons.1 ((h.iff i).2 ⟨h1, h2, h3⟩)).resolve_left h4
  nd := (List.nodup_cons.1 h.nd).2
  srt := (List.pairwise_cons.1 h.srt).2
theorem Has.other {l : List T} {gs : List Bool} {s c : Int} {a : Nat} {xs : List Nat} (hg : gs.length = l.length) (ha : a < l.length) (hn : ¬ onside l s c a = true) (h : Has l gs s c xs) : Has l (gs.set a true) s c xs where
  iff i := by
    rw [gone_set hg ha, h.iff]
    constructor
    · rintro ⟨h1, h2, h3⟩; exact ⟨h1, ⟨h2, fun e => hn (e ▸ h3)⟩, h3⟩
    · rintro ⟨h1, ⟨h2, _⟩, h3⟩; exact ⟨h1, h2, h3⟩
  nd := h.nd
  srt := h.srt
end Go.Proofs.Ytbhkbaapfioijaa
set_option linter.unusedVariables false
set_option linter.unusedSimpArgs false
namespace Go.Proofs.Ytbhkbaapfioijaa
open Go Go.Am Go.Proofs Go.Sort
/-! ### The document's match -/
theorem pc75' {l : List T} {gs : List Bool} {s c : Int} {xs : List Nat} (hv : VL l) (hg : gs.length = l.length) (h : Has l gs s c xs) : PC Try.prog 75 [vT l, .vs l.length (bl gs), .i .i64 s, .i .i64 c] (.i .i64 (hdI xs)) := by
  have := pc75 l gs hv.len hg s c
  rwa [h.lb hv] at this
set_option maxHeartbeats 1000000 in
theorem pc64 (l : List T) (hv : VL l) (tol : Int) : PC Try.prog 64 [vT l, .i .i64 tol] (vP (matchL l tol)) := by
  refine pc_fn fn64 (by simp only [AV.plains, AV.plain, il_plain, bl_plain, Bool.and_true, Bool.true_and, Bool.and_self, flT_plain, flP_plain]) (by simp only [AV.plains, AV.plain, il_plain, bl_plain, Bool.and_true, Bool.true_and, Bool.and_self, flT_plain, flP_plain]) (Nat.le_of_ble_eq_true rfl) ?_
  rw [initSt2]
  have hl := hv.len
  have q68 := fun a b ha hb => pc68 (l.getD a T0) (l.getD b T0) (hv.2.1 a ha) (hv.2.1 b hb)
  simp only [eT] at q68
  repeat' first
    | with_reducible refine k_seq ?_
    | with_reducible refine k_skip ?_
    | with_reducible refine k_blkS ?_
    | with_reducible refine k_blkR ?_
    | with_reducible refine k_blkC ?_
    | with_reducible refine k_blkH ?_
    | with_reducible refine k_blkB ?_
    | with_reducible refine k_blkK ?_
    | with_reducible refine k_blkE ?_
    | with_reducible refine k_reg ?_
    | with_reducible refine k_head (by with_unfolding_all rfl) ?_
    | with_reducible refine k_headS ?_
    | (with_reducible refine SepK.mk ?_ ?_; (refine sepQ_P ?_; simp [sepQ, sepG, AOp.late, AOp.free, AOp.xs, AOp.isAl, tokNe, AV.tok, stS_get, strip, AX.val, c64r0, c64r1, c64r2, c64r3, c64r4, c64r5, c64r6, c64r7, c64r8, c64r9, c64r10, c64r11, c64r12, c64r13, c64r15, c64r17, GA]; try omega))
    | with_reducible refine r_done ?_
    | with_reducible refine hr_done ?_
    | with_reducible refine s_go (by simp (disch := omega) only [c64r0, c64r1, c64r2, c64r3, c64r4, c64r5, c64r6, c64r7, c64r8, c64r9, c64r10, c64r11, c64r12, c64r13, c64r15, c64r17, EV0, EV1, EV2, EV3, EV4, EV5, EV6, EV7, EV8, VALS, plug, ite_same, decide_true, decide_false, eq_self, ↓reduceIte, reduceCtorEq, Nat.reduceAdd, Nat.reduceEqDiff, Nat.reduceLT, Nat.reduceLeDiff, Nat.reduceMul, Nat.reduceSub, Nat.reduceDiv, Int.reduceToNat, Int.reduceAdd, Int.reduceSub, Int.reduceMul, Int.reduceNeg, Int.reduceEq, Int.reduceLT, Int.reduceLE]; with_reducible rfl) ?_
    | with_reducible refine h_go (by with_unfolding_all rfl) (by simp (disch := omega) only [c64r0, c64r1, c64r2, c64r3, c64r4, c64r5, c64r6, c64r7, c64r8, c64r9, c64r10, c64r11, c64r12, c64r13, c64r15, c64r17, EV0, EV1, EV2, EV3, EV4, EV5, EV6, EV7, EV8, VALS, plug, ite_same, decide_true, decide_false, eq_self, ↓reduceIte, reduceCtorEq, Nat.reduceAdd, Nat.reduceEqDiff, Nat.reduceLT, Nat.reduceLeDiff, Nat.reduceMul, Nat.reduceSub, Nat.reduceDiv, Int.reduceToNat, Int.reduceAdd, Int.reduceSub, Int.reduceMul, Int.reduceNeg, Int.reduceEq, Int.reduceLT, Int.reduceLE]; with_reducible rfl) ?_
    | ((with_reducible refine chk_r ?_); refine r_callF (by simp only [CA, Nat.reduceEqDiff, ↓reduceIte]; rfl) (by exact rfl) (by simp only [CA, Nat.reduceEqDiff, ↓reduceIte]; rfl) rfl ?_)
    | ((with_reducible refine chk_h ?_); refine hr_callF (by simp only [CA, Nat.reduceEqDiff, ↓reduceIte]; rfl) (by exact rfl) (by simp only [CA, Nat.reduceEqDiff, ↓reduceIte]; rfl) rfl ?_)
    | ((with_reducible refine chk_h ?_); refine hr_app (by simp (disch := omega) only [c64r0, c64r1, c64r2, c64r3, c64r4, c64r5, c64r6, c64r7, c64r8, c64r9, c64r10, c64r11, c64r12, c64r13, c64r15, c64r17, EV0, EV1, EV2, EV3, EV4, EV5, EV6, EV7, EV8, VALS, plug, ite_same, decide_true, decide_false, eq_self, ↓reduceIte, reduceCtorEq, Nat.reduceAdd, Nat.reduceEqDiff, Nat.reduceLT, Nat.reduceLeDiff, Nat.reduceMul, Nat.reduceSub, Nat.reduceDiv, Int.reduceToNat, Int.reduceAdd, Int.reduceSub, Int.reduceMul, Int.reduceNeg, Int.reduceEq, Int.reduceLT, Int.reduceLE]; with_reducible rfl) rfl ?_)
    | (with_reducible refine k_condP (by simp only [GA, Nat.reduceEqDiff, ↓reduceIte]; rfl) (by first | (simp only [BO]; rfl) | rfl) (fun ht => ?_) (fun ht => ?_) <;> try (first | exact False.elim ht | exact absurd rfl ht | exact absurd trivial ht | exact Bool.noConfusion ht))
    | (with_reducible refine k_ret ?_; repeat with_reducible (first | refine ret_thru ?_ | refine ret_blk ?_ | refine fin ?_))
    | (with_reducible refine k_exit ?_; repeat with_reducible (first | refine thru ?_ | refine out_blk ?_ | refine pass (by decide) ?_))
    | (refine post1 ?_; simp only [GA, Nat.reduceEqDiff, ↓reduceIte])
    | (refine post2 ?_; simp only [GA, Nat.reduceEqDiff, ↓reduceIte])
    | (refine post3 ?_; simp only [GA, Nat.reduceEqDiff, ↓reduceIte])
    | (refine postc (by simp only [GA, Nat.reduceEqDiff, ↓reduceIte]; rfl) (by simp (disch := omega) only [c64r0, c64r1, c64r2, c64r3, c64r4, c64r5, c64r6, c64r7, c64r8, c64r9, c64r10, c64r11, c64r12, c64r13, c64r15, c64r17, EV0, EV1, EV2, EV3, EV4, EV5, EV6, EV7, EV8, VALS, plug, ite_same, decide_true, decide_false, eq_self, ↓reduceIte, reduceCtorEq, Nat.reduceAdd, Nat.reduceEqDiff, Nat.reduceLT, Nat.reduceLeDiff, Nat.reduceMul, Nat.reduceSub, Nat.reduceDiv, Int.reduceToNat, Int.reduceAdd, Int.reduceSub, Int.reduceMul, Int.reduceNeg, Int.reduceEq, Int.reduceLT, Int.reduceLE]; rfl) ?_)
    | refine post0 ?_
  refine w_virt 2 5 rfl ?_
  refine k_blk (k_loopS (X := Nat × Nat × List Bool) [0, 1, 5, 6, 7] 9 (fun k x => [(0, vT l), (1, .i .i64 tol), (5, .sl x.1 0 (mc l tol k).length 2), (6, .sl x.2.1 0 l.length 1), (7, .i .i64 ((k + 1 : Nat) : Int))])
    (fun k x h => x.1 ≠ 0 ∧ x.2.1 ≠ 0 ∧ x.2.1 ≠ x.1 ∧ (mc l tol k).length ≤ k * 60 ∧ x.2.2.length = l.length ∧ (∀ i, i < l.length → (k : Int) < (l.getD i T0).col → x.2.2.getD i false = false) ∧ h.m x.1 = some (.cells true (fl eP (mc l tol k))) ∧ h.m x.2.1 = some (.cells true (bl x.2.2))) (_, _, List.replicate l.length false) (by simp only [Am.keep, List.map_cons, List.map_nil, GA, Nat.reduceEqDiff, ↓reduceIte]; try rfl) ⟨?_, ?_, ?_, by simp [mc], by simp, fun i hi _ => by simp [hi], by simp (disch := omega) only [c64r0, c64r1, c64r2, c64r3, c64r4, c64r5, c64r6, c64r7, c64r8, c64r9, c64r10, c64r11, c64r12, c64r13, c64r15, c64r17, EV0, EV1, EV2, EV3, EV4, EV5, EV6, EV7, EV8, VALS, plug, ite_same, decide_true, decide_false, eq_self, ↓reduceIte, reduceCtorEq, Nat.reduceAdd, Nat.reduceEqDiff, Nat.reduceLT, Nat.reduceLeDiff, Nat.reduceMul, Nat.reduceSub, Nat.reduceDiv, Int.reduceToNat, Int.reduceAdd, Int.reduceSub, Int.reduceMul, Int.reduceNeg, Int.reduceEq, Int.reduceLT, Int.reduceLE] <;> rfl, by simp (disch := omega) only [bl_rep, c64r0, c64r1, c64r2, c64r3, c64r4, c64r5, c64r6, c64r7, c64r8, c64r9, c64r10, c64r11, c64r12, c64r13, c64r15, c64r17, EV0, EV1, EV2, EV3, EV4, EV5, EV6, EV7, EV8, VALS, plug, ite_same, decide_true, decide_false, eq_self, ↓reduceIte, reduceCtorEq, Nat.reduceAdd, Nat.reduceEqDiff, Nat.reduceLT, Nat.reduceLeDiff, Nat.reduceMul, Nat.reduceSub, Nat.reduceDiv, Int.reduceToNat, Int.reduceAdd, Int.reduceSub, Int.reduceMul, Int.reduceNeg, Int.reduceEq, Int.reduceLT, Int.reduceLE] <;> rfl⟩ ?_)
  · simp only [AH.bump_nx]; omega
  · simp only []; omega
  · simp only [AH.bump_nx, AH.set_nx, H1_nx]; omega
  rintro k ⟨x, y, gs⟩ h hk ⟨hx, hy, hyx, hlen, hg, late, hm, hmy⟩ ok pos
  simp only at hx hy hyx hg late hm hmy ⊢
  have hx' := ok.m hm
  have hy' := ok.m hmy
  by_cases hlt : k < 9
  · have c1 : ((k + 1 : Nat) : Int) ≤ 9 := by omega
    have hX : Has l gs 1 (k + 1 : Nat) (sideL l 1 (k + 1 : Nat)) := .init fun i hi e => late i hi (by omega)
    have hY : Has l gs 2 (k + 1 : Nat) (sideL l 2 (k + 1 : Nat)) := .init fun i hi e => late i hi (by omega)
    have p1 := pc75' hv hg hX
    have p2 := pc75' hv hg hY
    have hs1 := sideL_len l 1 (k + 1 : Nat)
    have hs2 := sideL_len l 2 (k + 1 : Nat)
    have fs := mc_succ l tol k
    repeat' first
      | with_reducible refine k_seq ?_
      | with_reducible refine k_skip ?_
      | with_reducible refine k_blkS ?_
      | with_reducible refine k_blkR ?_
      | with_reducible refine k_blkC ?_
      | with_reducible refine k_blkH ?_
      | with_reducible refine k_blkB ?_
      | with_reducible refine k_blkK ?_
      | with_reducible refine k_blkE ?_
      | with_reducible refine k_reg ?_
      | with_reducible refine k_head (by with_unfolding_all rfl) ?_
      | with_reducible refine k_headS ?_
      | (with_reducible refine SepK.mk ?_ ?_; (refine sepQ_P ?_; simp [sepQ, sepG, AOp.late, AOp.free, AOp.xs, AOp.isAl, tokNe, AV.tok, stS_get, strip, AX.val, c64r0, c64r1, c64r2, c64r3, c64r4, c64r5, c64r6, c64r7, c64r8, c64r9, c64r10, c64r11, c64r12, c64r13, c64r15, c64r17, GA]; try omega))
      | with_reducible refine r_done ?_
      | with_reducible refine hr_done ?_
      | with_reducible refine s_go (by simp (disch := omega) only [c1, hmy, c64r0, c64r1, c64r2, c64r3, c64r4, c64r5, c64r6, c64r7, c64r8, c64r9, c64r10, c64r11, c64r12, c64r13, c64r15, c64r17, EV0, EV1, EV2, EV3, EV4, EV5, EV6, EV7, EV8, VALS, plug, ite_same, decide_true, decide_false, eq_self, ↓reduceIte, reduceCtorEq, Nat.reduceAdd, Nat.reduceEqDiff, Nat.reduceLT, Nat.reduceLeDiff, Nat.reduceMul, Nat.reduceSub, Nat.reduceDiv, Int.reduceToNat, Int.reduceAdd, Int.reduceSub, Int.reduceMul, Int.reduceNeg, Int.reduceEq, Int.reduceLT, Int.reduceLE]; with_reducible rfl) ?_
      | with_reducible refine h_go (by with_unfolding_all rfl) (by simp (disch := omega) only [c1, hmy, c64r0, c64r1, c64r2, c64r3, c64r4, c64r5, c64r6, c64r7, c64r8, c64r9, c64r10, c64r11, c64r12, c64r13, c64r15, c64r17, EV0, EV1, EV2, EV3, EV4, EV5, EV6, EV7, EV8, VALS, plug, ite_same, decide_true, decide_false, eq_self, ↓reduceIte, reduceCtorEq, Nat.reduceAdd, Nat.reduceEqDiff, Nat.reduceLT, Nat.reduceLeDiff, Nat.reduceMul, Nat.reduceSub, Nat.reduceDiv, Int.reduceToNat, Int.reduceAdd, Int.reduceSub, Int.reduceMul, Int.reduceNeg, Int.reduceEq, Int.reduceLT, Int.reduceLE]; with_reducible rfl) ?_
      | ((with_reducible refine chk_r ?_); refine r_callF (by simp only [CA, Nat.reduceEqDiff, ↓reduceIte]; rfl) (by exact rfl) (by simp only [CA, Nat.reduceEqDiff, ↓reduceIte]; rfl) rfl ?_)
      | ((with_reducible refine chk_h ?_); refine hr_callF (by simp only [CA, Nat.reduceEqDiff, ↓reduceIte]; rfl) (by exact rfl) (by simp only [CA, Nat.reduceEqDiff, ↓reduceIte]; rfl) rfl ?_)
      | ((with_reducible refine chk_r ?_); refine r_callP (by simp only [CA, Nat.reduceEqDiff, ↓reduceIte]; rfl) (by simp only [CA, Nat.reduceEqDiff, ↓reduceIte]; rfl) (by first | ((refine PC.at p1 rfl ?_; refine .cons (.same (flT_plain _)) (.cons (.row (by simp (disch := omega) only [row_m hmy, c64r0, c64r1, c64r2, c64r3, c64r4, c64r5, c64r6, c64r7, c64r8, c64r9, c64r10, c64r11, c64r12, c64r13, c64r15, c64r17, EV0, EV1, EV2, EV3, EV4, EV5, EV6, EV7, EV8, VALS, plug, ite_same, decide_true, decide_false, eq_self, ↓reduceIte, reduceCtorEq, Nat.reduceAdd, Nat.reduceEqDiff, Nat.reduceLT, Nat.reduceLeDiff, Nat.reduceMul, Nat.reduceSub, Nat.reduceDiv, Int.reduceToNat, Int.reduceAdd, Int.reduceSub, Int.reduceMul, Int.reduceNeg, Int.reduceEq, Int.reduceLT, Int.reduceLE]) (bl_plain _)) (.cons (.same rfl) (.cons (.same rfl) .nil)))); all_goals fail) | ((refine PC.at p2 rfl ?_; refine .cons (.same (flT_plain _)) (.cons (.row (by simp (disch := omega) only [row_m hmy, c64r0, c64r1, c64r2, c64r3, c64r4, c64r5, c64r6, c64r7, c64r8, c64r9, c64r10, c64r11, c64r12, c64r13, c64r15, c64r17, EV0, EV1, EV2, EV3, EV4, EV5, EV6, EV7, EV8, VALS, plug, ite_same, decide_true, decide_false, eq_self, ↓reduceIte, reduceCtorEq, Nat.reduceAdd, Nat.reduceEqDiff, Nat.reduceLT, Nat.reduceLeDiff, Nat.reduceMul, Nat.reduceSub, Nat.reduceDiv, Int.reduceToNat, Int.reduceAdd, Int.reduceSub, Int.reduceMul, Int.reduceNeg, Int.reduceEq, Int.reduceLT, Int.reduceLE]) (bl_plain _)) (.cons (.same rfl) (.cons (.same rfl) .nil)))); all_goals fail)) rfl ?_)
      | ((with_reducible refine chk_h ?_); refine hr_callP (by simp only [CA, Nat.reduceEqDiff, ↓reduceIte]; rfl) (by simp only [CA, Nat.reduceEqDiff, ↓reduceIte]; rfl) (by first | ((refine PC.at p1 rfl ?_; refine .cons (.same (flT_plain _)) (.cons (.row (by simp (disch := omega) only [row_m hmy, c64r0, c64r1, c64r2, c64r3, c64r4, c64r5, c64r6, c64r7, c64r8, c64r9, c64r10, c64r11, c64r12, c64r13, c64r15, c64r17, EV0, EV1, EV2, EV3, EV4, EV5, EV6, EV7, EV8, VALS, plug, ite_same, decide_true, decide_false, eq_self, ↓reduceIte, reduceCtorEq, Nat.reduceAdd, Nat.reduceEqDiff, Nat.reduceLT, Nat.reduceLeDiff, Nat.reduceMul, Nat.reduceSub, Nat.reduceDiv, Int.reduceToNat, Int.reduceAdd, Int.reduceSub, Int.reduceMul, Int.reduceNeg, Int.reduceEq, Int.reduceLT, Int.reduceLE]) (bl_plain _)) (.cons (.same rfl) (.cons (.same rfl) .nil)))); all_goals fail) | ((refine PC.at p2 rfl ?_; refine .cons (.same (flT_plain _)) (.cons (.row (by simp (disch := omega) only [row_m hmy, c64r0, c64r1, c64r2, c64r3, c64r4, c64r5, c64r6, c64r7, c64r8, c64r9, c64r10, c64r11, c64r12, c64r13, c64r15, c64r17, EV0, EV1, EV2, EV3, EV4, EV5, EV6, EV7, EV8, VALS, plug, ite_same, decide_true, decide_false, eq_self, ↓reduceIte, reduceCtorEq, Nat.reduceAdd, Nat.reduceEqDiff, Nat.reduceLT, Nat.reduceLeDiff, Nat.reduceMul, Nat.reduceSub, Nat.reduceDiv, Int.reduceToNat, Int.reduceAdd, Int.reduceSub, Int.reduceMul, Int.reduceNeg, Int.reduceEq, Int.reduceLT, Int.reduceLE]) (bl_plain _)) (.cons (.same rfl) (.cons (.same rfl) .nil)))); all_goals fail)) rfl ?_)
      | ((with_reducible refine chk_h ?_); refine hr_callP1 (by simp only [CA, Nat.reduceEqDiff, ↓reduceIte]; rfl) (by simp only [CA, Nat.reduceEqDiff, ↓reduceIte]; rfl) (by simp (disch := omega) only [CA, Nat.reduceEqDiff, ↓reduceIte, firstTok_nil, firstTok_sl, firstTok_sl0, firstTok_i, firstTok_b, firstTok_ag, firstTok_p, firstTok_s]; rfl) (by first | ((refine PC.at p1 rfl ?_; refine .cons (.same (flT_plain _)) (.cons (.row (by simp (disch := omega) only [row_m hmy, c64r0, c64r1, c64r2, c64r3, c64r4, c64r5, c64r6, c64r7, c64r8, c64r9, c64r10, c64r11, c64r12, c64r13, c64r15, c64r17, EV0, EV1, EV2, EV3, EV4, EV5, EV6, EV7, EV8, VALS, plug, ite_same, decide_true, decide_false, eq_self, ↓reduceIte, reduceCtorEq, Nat.reduceAdd, Nat.reduceEqDiff, Nat.reduceLT, Nat.reduceLeDiff, Nat.reduceMul, Nat.reduceSub, Nat.reduceDiv, Int.reduceToNat, Int.reduceAdd, Int.reduceSub, Int.reduceMul, Int.reduceNeg, Int.reduceEq, Int.reduceLT, Int.reduceLE]) (bl_plain _)) (.cons (.same rfl) (.cons (.same rfl) .nil)))); all_goals fail) | ((refine PC.at p2 rfl ?_; refine .cons (.same (flT_plain _)) (.cons (.row (by simp (disch := omega) only [row_m hmy, c64r0, c64r1, c64r2, c64r3, c64r4, c64r5, c64r6, c64r7, c64r8, c64r9, c64r10, c64r11, c64r12, c64r13, c64r15, c64r17, EV0, EV1, EV2, EV3, EV4, EV5, EV6, EV7, EV8, VALS, plug, ite_same, decide_true, decide_false, eq_self, ↓reduceIte, reduceCtorEq, Nat.reduceAdd, Nat.reduceEqDiff, Nat.reduceLT, Nat.reduceLeDiff, Nat.reduceMul, Nat.reduceSub, Nat.reduceDiv, Int.reduceToNat, Int.reduceAdd, Int.reduceSub, Int.reduceMul, Int.reduceNeg, Int.reduceEq, Int.reduceLT, Int.reduceLE]) (bl_plain _)) (.cons (.same rfl) (.cons (.same rfl) .nil)))); all_goals fail)) rfl ?_)
      | ((with_reducible refine chk_h ?_); refine hr_app (by simp (disch := omega) only [c1, hmy, c64r0, c64r1, c64r2, c64r3, c64r4, c64r5, c64r6, c64r7, c64r8, c64r9, c64r10, c64r11, c64r12, c64r13, c64r15, c64r17, EV0, EV1, EV2, EV3, EV4, EV5, EV6, EV7, EV8, VALS, plug, ite_same, decide_true, decide_false, eq_self, ↓reduceIte, reduceCtorEq, Nat.reduceAdd, Nat.reduceEqDiff, Nat.reduceLT, Nat.reduceLeDiff, Nat.reduceMul, Nat.reduceSub, Nat.reduceDiv, Int.reduceToNat, Int.reduceAdd, Int.reduceSub, Int.reduceMul, Int.reduceNeg, Int.reduceEq, Int.reduceLT, Int.reduceLE]; with_reducible rfl) rfl ?_)
      | (with_reducible refine k_condP (by simp only [GA, Nat.reduceEqDiff, ↓reduceIte]; rfl) (by first | (simp only [BO]; rfl) | rfl) (fun ht => ?_) (fun ht => ?_) <;> try (first | exact False.elim ht | exact absurd rfl ht | exact absurd trivial ht | exact Bool.noConfusion ht))
      | (with_reducible refine k_ret ?_; repeat with_reducible (first | refine ret_thru ?_ | refine ret_blk ?_ | refine fin ?_))
      | (with_reducible refine k_exit ?_; repeat with_reducible (first | refine thru ?_ | refine out_blk ?_ | refine pass (by decide) ?_))
      | (refine post1 ?_; simp only [GA, Nat.reduceEqDiff, ↓reduceIte])
      | (refine post2 ?_; simp only [GA, Nat.reduceEqDiff, ↓reduceIte])
      | (refine post3 ?_; simp only [GA, Nat.reduceEqDiff, ↓reduceIte])
      | (refine postc (by simp only [GA, Nat.reduceEqDiff, ↓reduceIte]; rfl) (by simp (disch := omega) only [c1, hmy, c64r0, c64r1, c64r2, c64r3, c64r4, c64r5, c64r6, c64r7, c64r8, c64r9, c64r10, c64r11, c64r12, c64r13, c64r15, c64r17, EV0, EV1, EV2, EV3, EV4, EV5, EV6, EV7, EV8, VALS, plug, ite_same, decide_true, decide_false, eq_self, ↓reduceIte, reduceCtorEq, Nat.reduceAdd, Nat.reduceEqDiff, Nat.reduceLT, Nat.reduceLeDiff, Nat.reduceMul, Nat.reduceSub, Nat.reduceDiv, Int.reduceToNat, Int.reduceAdd, Int.reduceSub, Int.reduceMul, Int.reduceNeg, Int.reduceEq, Int.reduceLT, Int.reduceLE]; rfl) ?_)
      | refine post0 ?_
    refine k_blk (k_loopW (X := Nat × Nat × List Bool × List (Nat × Nat) × List Nat × List Nat) [0, 1, 5, 6, 7, 8, 9] (fun x => [(0, vT l), (1, .i .i64 tol), (5, .sl x.1 0 x.2.2.2.1.length 2), (6, .sl x.2.1 0 l.length 1), (7, .i .i64 ((k + 1 : Nat) : Int)), (8, .i .i64 (hdI x.2.2.2.2.1)), (9, .i .i64 (hdI x.2.2.2.2.2))])
      (fun x => x.2.2.2.2.1.length + x.2.2.2.2.2.length)
      (fun x h => x.1 ≠ 0 ∧ x.2.1 ≠ 0 ∧ x.2.1 ≠ x.1 ∧ x.2.2.2.1 ++ mt l tol x.2.2.2.2.1 x.2.2.2.2.2 = mc l tol (k + 1) ∧ x.2.2.2.1.length + x.2.2.2.2.1.length ≤ k * 60 + 60 ∧ x.2.2.1.length = l.length ∧ Has l x.2.2.1 1 (k + 1 : Nat) x.2.2.2.2.1 ∧ Has l x.2.2.1 2 (k + 1 : Nat) x.2.2.2.2.2 ∧ (∀ i, i < l.length → ((k + 1 : Nat) : Int) < (l.getD i T0).col → x.2.2.1.getD i false = false) ∧ h.m x.1 = some (.cells true (fl eP x.2.2.2.1)) ∧ h.m x.2.1 = some (.cells true (bl x.2.2.1))) (x, y, gs, mc l tol k, sideL l 1 (k + 1 : Nat), sideL l 2 (k + 1 : Nat)) (by simp only [Am.keep, List.map_cons, List.map_nil, GA, Nat.reduceEqDiff, ↓reduceIte]; try rfl) ⟨hx, hy, hyx, fs.symm, by simp only []; omega, hg, hX, hY, fun i hi q => late i hi (by omega), by simp (disch := omega) only [hm, c64r0, c64r1, c64r2, c64r3, c64r4, c64r5, c64r6, c64r7, c64r8, c64r9, c64r10, c64r11, c64r12, c64r13, c64r15, c64r17, EV0, EV1, EV2, EV3, EV4, EV5, EV6, EV7, EV8, VALS, plug, ite_same, decide_true, decide_false, eq_self, ↓reduceIte, reduceCtorEq, Nat.reduceAdd, Nat.reduceEqDiff, Nat.reduceLT, Nat.reduceLeDiff, Nat.reduceMul, Nat.reduceSub, Nat.reduceDiv, Int.reduceToNat, Int.reduceAdd, Int.reduceSub, Int.reduceMul, Int.reduceNeg, Int.reduceEq, Int.reduceLT, Int.reduceLE], by simp (disch := omega) only [hmy, c64r0, c64r1, c64r2, c64r3, c64r4, c64r5, c64r6, c64r7, c64r8, c64r9, c64r10, c64r11, c64r12, c64r13, c64r15, c64r17, EV0, EV1, EV2, EV3, EV4, EV5, EV6, EV7, EV8, VALS, plug, ite_same, decide_true, decide_false, eq_self, ↓reduceIte, reduceCtorEq, Nat.reduceAdd, Nat.reduceEqDiff, Nat.reduceLT, Nat.reduceLeDiff, Nat.reduceMul, Nat.reduceSub, Nat.reduceDiv, Int.reduceToNat, Int.reduceAdd, Int.reduceSub, Int.reduceMul, Int.reduceNeg, Int.reduceEq, Int.reduceLT, Int.reduceLE]⟩ ?_)
    rintro ⟨x, y, gs, acc, xs, ys⟩ h ⟨hx, hy, hyx, e, hlen, hg, hX, hY, late, hm, hmy⟩ ok pos
    simp only [] at hx hy hyx e hlen hg hX hY late hm hmy
    have hx' := ok.m hm
    have hy' := ok.m hmy
    cases xs with
    | nil =>
      rw [mt_nil1, List.append_nil] at e
      simp only [List.length_nil] at hlen
      repeat' first
        | with_reducible refine k_seq ?_
        | with_reducible refine k_skip ?_
        | with_reducible refine k_blkS ?_
        | with_reducible refine k_blkR ?_
        | with_reducible refine k_blkC ?_
        | with_reducible refine k_blkH ?_
        | with_reducible refine k_blkB ?_
        | with_reducible refine k_blkK ?_
        | with_reducible refine k_blkE ?_
        | with_reducible refine k_reg ?_
        | with_reducible refine k_head (by with_unfolding_all rfl) ?_
        | with_reducible refine k_headS ?_
        | (with_reducible refine SepK.mk ?_ ?_; (refine sepQ_P ?_; simp [sepQ, sepG, AOp.late, AOp.free, AOp.xs, AOp.isAl, tokNe, AV.tok, stS_get, strip, AX.val, c64r0, c64r1, c64r2, c64r3, c64r4, c64r5, c64r6, c64r7, c64r8, c64r9, c64r10, c64r11, c64r12, c64r13, c64r15, c64r17, GA]; try omega))
        | with_reducible refine r_done ?_
        | with_reducible refine hr_done ?_
        | with_reducible refine s_go (by simp (disch := omega) only [hdI_nil, c64r0, c64r1, c64r2, c64r3, c64r4, c64r5, c64r6, c64r7, c64r8, c64r9, c64r10, c64r11, c64r12, c64r13, c64r15, c64r17, EV0, EV1, EV2, EV3, EV4, EV5, EV6, EV7, EV8, VALS, plug, ite_same, decide_true, decide_false, eq_self, ↓reduceIte, reduceCtorEq, Nat.reduceAdd, Nat.reduceEqDiff, Nat.reduceLT, Nat.reduceLeDiff, Nat.reduceMul, Nat.reduceSub, Nat.reduceDiv, Int.reduceToNat, Int.reduceAdd, Int.reduceSub, Int.reduceMul, Int.reduceNeg, Int.reduceEq, Int.reduceLT, Int.reduceLE]; with_reducible rfl) ?_
        | with_reducible refine h_go (by with_unfolding_all rfl) (by simp (disch := omega) only [hdI_nil, c64r0, c64r1, c64r2, c64r3, c64r4, c64r5, c64r6, c64r7, c64r8, c64r9, c64r10, c64r11, c64r12, c64r13, c64r15, c64r17, EV0, EV1, EV2, EV3, EV4, EV5, EV6, EV7, EV8, VALS, plug, ite_same, decide_true, decide_false, eq_self, ↓reduceIte, reduceCtorEq, Nat.reduceAdd, Nat.reduceEqDiff, Nat.reduceLT, Nat.reduceLeDiff, Nat.reduceMul, Nat.reduceSub, Nat.reduceDiv, Int.reduceToNat, Int.reduceAdd, Int.reduceSub, Int.reduceMul, Int.reduceNeg, Int.reduceEq, Int.reduceLT, Int.reduceLE]; with_reducible rfl) ?_
        | ((with_reducible refine chk_r ?_); refine r_callF (by simp only [CA, Nat.reduceEqDiff, ↓reduceIte]; rfl) (by exact rfl) (by simp only [CA, Nat.reduceEqDiff, ↓reduceIte]; rfl) rfl ?_)
        | ((with_reducible refine chk_h ?_); refine hr_callF (by simp only [CA, Nat.reduceEqDiff, ↓reduceIte]; rfl) (by exact rfl) (by simp only [CA, Nat.reduceEqDiff, ↓reduceIte]; rfl) rfl ?_)
        | ((with_reducible refine chk_h ?_); refine hr_app (by simp (disch := omega) only [hdI_nil, c64r0, c64r1, c64r2, c64r3, c64r4, c64r5, c64r6, c64r7, c64r8, c64r9, c64r10, c64r11, c64r12, c64r13, c64r15, c64r17, EV0, EV1, EV2, EV3, EV4, EV5, EV6, EV7, EV8, VALS, plug, ite_same, decide_true, decide_false, eq_self, ↓reduceIte, reduceCtorEq, Nat.reduceAdd, Nat.reduceEqDiff, Nat.reduceLT, Nat.reduceLeDiff, Nat.reduceMul, Nat.reduceSub, Nat.reduceDiv, Int.reduceToNat, Int.reduceAdd, Int.reduceSub, Int.reduceMul, Int.reduceNeg, Int.reduceEq, Int.reduceLT, Int.reduceLE]; with_reducible rfl) rfl ?_)
        | (with_reducible refine k_condP (by simp only [GA, Nat.reduceEqDiff, ↓reduceIte]; rfl) (by first | (simp only [BO]; rfl) | rfl) (fun ht => ?_) (fun ht => ?_) <;> try (first | exact False.elim ht | exact absurd rfl ht | exact absurd trivial ht | exact Bool.noConfusion ht))
        | (with_reducible refine k_ret ?_; repeat with_reducible (first | refine ret_thru ?_ | refine ret_blk ?_ | refine fin ?_))
        | (with_reducible refine k_exit ?_; repeat with_reducible (first | refine thru ?_ | refine out_blk ?_ | refine pass (by decide) ?_))
        | (refine post1 ?_; simp only [GA, Nat.reduceEqDiff, ↓reduceIte])
        | (refine post2 ?_; simp only [GA, Nat.reduceEqDiff, ↓reduceIte])
        | (refine post3 ?_; simp only [GA, Nat.reduceEqDiff, ↓reduceIte])
        | (refine postc (by simp only [GA, Nat.reduceEqDiff, ↓reduceIte]; rfl) (by simp (disch := omega) only [hdI_nil, c64r0, c64r1, c64r2, c64r3, c64r4, c64r5, c64r6, c64r7, c64r8, c64r9, c64r10, c64r11, c64r12, c64r13, c64r15, c64r17, EV0, EV1, EV2, EV3, EV4, EV5, EV6, EV7, EV8, VALS, plug, ite_same, decide_true, decide_false, eq_self, ↓reduceIte, reduceCtorEq, Nat.reduceAdd, Nat.reduceEqDiff, Nat.reduceLT, Nat.reduceLeDiff, Nat.reduceMul, Nat.reduceSub, Nat.reduceDiv, Int.reduceToNat, Int.reduceAdd, Int.reduceSub, Int.reduceMul, Int.reduceNeg, Int.reduceEq, Int.reduceLT, Int.reduceLE]; rfl) ?_)
        | refine post0 ?_
      all_goals try (exfalso; omega)
      rw [← e]
      exact ⟨hlt, (x, y, gs), (by simp only [Am.keep, List.map_cons, List.map_nil, GA, Nat.reduceEqDiff, ↓reduceIte]; try rfl), hx, hy, hyx, by omega, hg, late, by simp (disch := omega) only [hm, c64r0, c64r1, c64r2, c64r3, c64r4, c64r5, c64r6, c64r7, c64r8, c64r9, c64r10, c64r11, c64r12, c64r13, c64r15, c64r17, EV0, EV1, EV2, EV3, EV4, EV5, EV6, EV7, EV8, VALS, plug, ite_same, decide_true, decide_false, eq_self, ↓reduceIte, reduceCtorEq, Nat.reduceAdd, Nat.reduceEqDiff, Nat.reduceLT, Nat.reduceLeDiff, Nat.reduceMul, Nat.reduceSub, Nat.reduceDiv, Int.reduceToNat, Int.reduceAdd, Int.reduceSub, Int.reduceMul, Int.reduceNeg, Int.reduceEq, Int.reduceLT, Int.reduceLE], by simp (disch := omega) only [hmy, c64r0, c64r1, c64r2, c64r3, c64r4, c64r5, c64r6, c64r7, c64r8, c64r9, c64r10, c64r11, c64r12, c64r13, c64r15, c64r17, EV0, EV1, EV2, EV3, EV4, EV5, EV6, EV7, EV8, VALS, plug, ite_same, decide_true, decide_false, eq_self, ↓reduceIte, reduceCtorEq, Nat.reduceAdd, Nat.reduceEqDiff, Nat.reduceLT, Nat.reduceLeDiff, Nat.reduceMul, Nat.reduceSub, Nat.reduceDiv, Int.reduceToNat, Int.reduceAdd, Int.reduceSub, Int.reduceMul, Int.reduceNeg, Int.reduceEq, Int.reduceLT, Int.reduceLE]⟩
    | cons a xs =>
      cases ys with
      | nil =>
        rw [mt_nil2, List.append_nil] at e
        simp only [List.length_cons] at hlen
        repeat' first
          | with_reducible refine k_seq ?_
          | with_reducible refine k_skip ?_
          | with_reducible refine k_blkS ?_
          | with_reducible refine k_blkR ?_
          | with_reducible refine k_blkC ?_
          | with_reducible refine k_blkH ?_
          | with_reducible refine k_blkB ?_
          | with_reducible refine k_blkK ?_
          | with_reducible refine k_blkE ?_
          | with_reducible refine k_reg ?_
          | with_reducible refine k_head (by with_unfolding_all rfl) ?_
          | with_reducible refine k_headS ?_
          | (with_reducible refine SepK.mk ?_ ?_; (refine sepQ_P ?_; simp [sepQ, sepG, AOp.late, AOp.free, AOp.xs, AOp.isAl, tokNe, AV.tok, stS_get, strip, AX.val, c64r0, c64r1, c64r2, c64r3, c64r4, c64r5, c64r6, c64r7, c64r8, c64r9, c64r10, c64r11, c64r12, c64r13, c64r15, c64r17, GA]; try omega))
          | with_reducible refine r_done ?_
          | with_reducible refine hr_done ?_
          | with_reducible refine s_go (by simp (disch := omega) only [hdI_nil, hdI_cons, c64r0, c64r1, c64r2, c64r3, c64r4, c64r5, c64r6, c64r7, c64r8, c64r9, c64r10, c64r11, c64r12, c64r13, c64r15, c64r17, EV0, EV1, EV2, EV3, EV4, EV5, EV6, EV7, EV8, VALS, plug, ite_same, decide_true, decide_false, eq_self, ↓reduceIte, reduceCtorEq, Nat.reduceAdd, Nat.reduceEqDiff, Nat.reduceLT, Nat.reduceLeDiff, Nat.reduceMul, Nat.reduceSub, Nat.reduceDiv, Int.reduceToNat, Int.reduceAdd, Int.reduceSub, Int.reduceMul, Int.reduceNeg, Int.reduceEq, Int.reduceLT, Int.reduceLE]; with_reducible rfl) ?_
          | with_reducible refine h_go (by with_unfolding_all rfl) (by simp (disch := omega) only [hdI_nil, hdI_cons, c64r0, c64r1, c64r2, c64r3, c64r4, c64r5, c64r6, c64r7, c64r8, c64r9, c64r10, c64r11, c64r12, c64r13, c64r15, c64r17, EV0, EV1, EV2, EV3, EV4, EV5, EV6, EV7, EV8, VALS, plug, ite_same, decide_true, decide_false, eq_self, ↓reduceIte, reduceCtorEq, Nat.reduceAdd, Nat.reduceEqDiff, Nat.reduceLT, Nat.reduceLeDiff, Nat.reduceMul, Nat.reduceSub, Nat.reduceDiv, Int.reduceToNat, Int.reduceAdd, Int.reduceSub, Int.reduceMul, Int.reduceNeg, Int.reduceEq, Int.reduceLT, Int.reduceLE]; with_reducible rfl) ?_
          | ((with_reducible refine chk_r ?_); refine r_callF (by simp only [CA, Nat.reduceEqDiff, ↓reduceIte]; rfl) (by exact rfl) (by simp only [CA, Nat.reduceEqDiff, ↓reduceIte]; rfl) rfl ?_)
          | ((with_reducible refine chk_h ?_); refine hr_callF (by simp only [CA, Nat.reduceEqDiff, ↓reduceIte]; rfl) (by exact rfl) (by simp only [CA, Nat.reduceEqDiff, ↓reduceIte]; rfl) rfl ?_)
          | ((with_reducible refine chk_h ?_); refine hr_app (by simp (disch := omega) only [hdI_nil, hdI_cons, c64r0, c64r1, c64r2, c64r3, c64r4, c64r5, c64r6, c64r7, c64r8, c64r9, c64r10, c64r11, c64r12, c64r13, c64r15, c64r17, EV0, EV1, EV2, EV3, EV4, EV5, EV6, EV7, EV8, VALS, plug, ite_same, decide_true, decide_false, eq_self, ↓reduceIte, reduceCtorEq, Nat.reduceAdd, Nat.reduceEqDiff, Nat.reduceLT, Nat.reduceLeDiff, Nat.reduceMul, Nat.reduceSub, Nat.reduceDiv, Int.reduceToNat, Int.reduceAdd, Int.reduceSub, Int.reduceMul, Int.reduceNeg, Int.reduceEq, Int.reduceLT, Int.reduceLE]; with_reducible rfl) rfl ?_)
          | (with_reducible refine k_condP (by simp only [GA, Nat.reduceEqDiff, ↓reduceIte]; rfl) (by first | (simp only [BO]; rfl) | rfl) (fun ht => ?_) (fun ht => ?_) <;> try (first | exact False.elim ht | exact absurd rfl ht | exact absurd trivial ht | exact Bool.noConfusion ht))
          | (with_reducible refine k_ret ?_; repeat with_reducible (first | refine ret_thru ?_ | refine ret_blk ?_ | refine fin ?_))
          | (with_reducible refine k_exit ?_; repeat with_reducible (first | refine thru ?_ | refine out_blk ?_ | refine pass (by decide) ?_))
          | (refine post1 ?_; simp only [GA, Nat.reduceEqDiff, ↓reduceIte])
          | (refine post2 ?_; simp only [GA, Nat.reduceEqDiff, ↓reduceIte])
          | (refine post3 ?_; simp only [GA, Nat.reduceEqDiff, ↓reduceIte])
          | (refine postc (by simp only [GA, Nat.reduceEqDiff, ↓reduceIte]; rfl) (by simp (disch := omega) only [hdI_nil, hdI_cons, c64r0, c64r1, c64r2, c64r3, c64r4, c64r5, c64r6, c64r7, c64r8, c64r9, c64r10, c64r11, c64r12, c64r13, c64r15, c64r17, EV0, EV1, EV2, EV3, EV4, EV5, EV6, EV7, EV8, VALS, plug, ite_same, decide_true, decide_false, eq_self, ↓reduceIte, reduceCtorEq, Nat.reduceAdd, Nat.reduceEqDiff, Nat.reduceLT, Nat.reduceLeDiff, Nat.reduceMul, Nat.reduceSub, Nat.reduceDiv, Int.reduceToNat, Int.reduceAdd, Int.reduceSub, Int.reduceMul, Int.reduceNeg, Int.reduceEq, Int.reduceLT, Int.reduceLE]; rfl) ?_)
          | refine post0 ?_
        all_goals try (exfalso; omega)
        rw [← e]
        exact ⟨hlt, (x, y, gs), (by simp only [Am.keep, List.map_cons, List.map_nil, GA, Nat.reduceEqDiff, ↓reduceIte]; try rfl), hx, hy, hyx, by omega, hg, late, by simp (disch := omega) only [hm, c64r0, c64r1, c64r2, c64r3, c64r4, c64r5, c64r6, c64r7, c64r8, c64r9, c64r10, c64r11, c64r12, c64r13, c64r15, c64r17, EV0, EV1, EV2, EV3, EV4, EV5, EV6, EV7, EV8, VALS, plug, ite_same, decide_true, decide_false, eq_self, ↓reduceIte, reduceCtorEq, Nat.reduceAdd, Nat.reduceEqDiff, Nat.reduceLT, Nat.reduceLeDiff, Nat.reduceMul, Nat.reduceSub, Nat.reduceDiv, Int.reduceToNat, Int.reduceAdd, Int.reduceSub, Int.reduceMul, Int.reduceNeg, Int.reduceEq, Int.reduceLT, Int.reduceLE], by simp (disch := omega) only [hmy, c64r0, c64r1, c64r2, c64r3, c64r4, c64r5, c64r6, c64r7, c64r8, c64r9, c64r10, c64r11, c64r12, c64r13, c64r15, c64r17, EV0, EV1, EV2, EV3, EV4, EV5, EV6, EV7, EV8, VALS, plug, ite_same, decide_true, decide_false, eq_self, ↓reduceIte, reduceCtorEq, Nat.reduceAdd, Nat.reduceEqDiff, Nat.reduceLT, Nat.reduceLeDiff, Nat.reduceMul, Nat.reduceSub, Nat.reduceDiv, Int.reduceToNat, Int.reduceAdd, Int.reduceSub, Int.reduceMul, Int.reduceNeg, Int.reduceEq, Int.reduceLT, Int.reduceLE]⟩
      | cons b ys =>
        rw [mt_cons] at e
        obtain ⟨ha, ga, oa⟩ := (hX.iff a).1 (by simp)
        obtain ⟨hb, gb, ob⟩ := (hY.iff b).1 (by simp)
        have oa' := onside_iff.1 oa
        have ob' := onside_iff.1 ob
        have na : ¬ onside l 2 (k + 1 : Nat) a = true := fun q => by have := (onside_iff.1 q).1; omega
        have nb : ¬ onside l 1 (k + 1 : Nat) b = true := fun q => by have := (onside_iff.1 q).1; omega
        have ga' : (gs.set a true).length = l.length := by rw [List.length_set]; exact hg
        have gb' : (gs.set b true).length = l.length := by rw [List.length_set]; exact hg
        have gab : ((gs.set a true).set b true).length = l.length := by rw [List.length_set]; exact ga'
        have X2 := hX.tail hg
        have Y2 := hY.other hg ha na
        have X1 := X2.other ga' hb nb
        have Y1 := Y2.tail ga'
        have X3 := hX.other hg hb nb
        have Y3 := hY.tail hg
        have r1 := pc75' hv gab X1
        have r2 := pc75' hv gab Y1
        have r3 := pc75' hv ga' X2
        have r4 := pc75' hv ga' Y2
        have r5 := pc75' hv gb' X3
        have r6 := pc75' hv gb' Y3
        have l2 : ∀ i, i < l.length → ((k + 1 : Nat) : Int) < (l.getD i T0).col → (gs.set a true).getD i false = false := fun i hi q => (gone_set hg ha).2 ⟨late i hi q, fun e => by subst e; omega⟩
        have l3 : ∀ i, i < l.length → ((k + 1 : Nat) : Int) < (l.getD i T0).col → (gs.set b true).getD i false = false := fun i hi q => (gone_set hg hb).2 ⟨late i hi q, fun e => by subst e; omega⟩
        have l1 : ∀ i, i < l.length → ((k + 1 : Nat) : Int) < (l.getD i T0).col → ((gs.set a true).set b true).getD i false = false := fun i hi q => (gone_set ga' hb).2 ⟨l2 i hi q, fun e => by subst e; omega⟩
        have rA := rdT ha
        have rB := rdT hb
        have a2 := getT2 ha
        have b2 := getT2 hb
        have q68 := q68 a b ha hb
        simp only [eT] at rA rB
        simp only [List.length_cons] at hlen
        repeat' first
          | with_reducible refine k_seq ?_
          | with_reducible refine k_skip ?_
          | with_reducible refine k_blkS ?_
          | with_reducible refine k_blkR ?_
          | with_reducible refine k_blkC ?_
          | with_reducible refine k_blkH ?_
          | with_reducible refine k_blkB ?_
          | with_reducible refine k_blkK ?_
          | with_reducible refine k_blkE ?_
          | with_reducible refine k_reg ?_
          | with_reducible refine k_head (by with_unfolding_all rfl) ?_
          | with_reducible refine k_headS ?_
          | (with_reducible refine SepK.mk ?_ ?_; (refine sepQ_P ?_; simp [sepQ, sepG, AOp.late, AOp.free, AOp.xs, AOp.isAl, tokNe, AV.tok, stS_get, strip, AX.val, c64r0, c64r1, c64r2, c64r3, c64r4, c64r5, c64r6, c64r7, c64r8, c64r9, c64r10, c64r11, c64r12, c64r13, c64r15, c64r17, GA]; try omega))
          | with_reducible refine r_done ?_
          | with_reducible refine hr_done ?_
          | with_reducible refine s_go (by simp (disch := omega) only [rA, rB, a2, b2, hdI_cons, hx, hm, hmy, hg, row_m hmy, read_row (row_m hmy), flP_len, flP_snoc, List.length_set, c64r0, c64r1, c64r2, c64r3, c64r4, c64r5, c64r6, c64r7, c64r8, c64r9, c64r10, c64r11, c64r12, c64r13, c64r15, c64r17, EV0, EV1, EV2, EV3, EV4, EV5, EV6, EV7, EV8, VALS, plug, ite_same, decide_true, decide_false, eq_self, ↓reduceIte, reduceCtorEq, Nat.reduceAdd, Nat.reduceEqDiff, Nat.reduceLT, Nat.reduceLeDiff, Nat.reduceMul, Nat.reduceSub, Nat.reduceDiv, Int.reduceToNat, Int.reduceAdd, Int.reduceSub, Int.reduceMul, Int.reduceNeg, Int.reduceEq, Int.reduceLT, Int.reduceLE]; with_reducible rfl) ?_
          | with_reducible refine h_go (by with_unfolding_all rfl) (by simp (disch := omega) only [rA, rB, a2, b2, hdI_cons, hx, hm, hmy, hg, row_m hmy, read_row (row_m hmy), flP_len, flP_snoc, List.length_set, c64r0, c64r1, c64r2, c64r3, c64r4, c64r5, c64r6, c64r7, c64r8, c64r9, c64r10, c64r11, c64r12, c64r13, c64r15, c64r17, EV0, EV1, EV2, EV3, EV4, EV5, EV6, EV7, EV8, VALS, plug, ite_same, decide_true, decide_false, eq_self, ↓reduceIte, reduceCtorEq, Nat.reduceAdd, Nat.reduceEqDiff, Nat.reduceLT, Nat.reduceLeDiff, Nat.reduceMul, Nat.reduceSub, Nat.reduceDiv, Int.reduceToNat, Int.reduceAdd, Int.reduceSub, Int.reduceMul, Int.reduceNeg, Int.reduceEq, Int.reduceLT, Int.reduceLE]; with_reducible rfl) ?_
          | ((with_reducible refine chk_r ?_); refine r_callF (by simp only [CA, Nat.reduceEqDiff, ↓reduceIte]; rfl) (by exact rfl) (by simp only [CA, Nat.reduceEqDiff, ↓reduceIte]; rfl) rfl ?_)
          | ((with_reducible refine chk_h ?_); refine hr_callF (by simp only [CA, Nat.reduceEqDiff, ↓reduceIte]; rfl) (by exact rfl) (by simp only [CA, Nat.reduceEqDiff, ↓reduceIte]; rfl) rfl ?_)
          | ((with_reducible refine chk_r ?_); refine r_callP (by simp only [CA, Nat.reduceEqDiff, ↓reduceIte]; rfl) (by simp only [CA, Nat.reduceEqDiff, ↓reduceIte]; rfl) (by first | exact q68 _ | ((refine PC.at r1 rfl ?_; refine .cons (.same (flT_plain _)) (.cons (.row ?_ (bl_plain _)) (.cons (.same rfl) (.cons (.same rfl) .nil))); (simp (disch := omega) only [hmy, c64r0, c64r1, c64r2, c64r3, c64r4, c64r5, c64r6, c64r7, c64r8, c64r9, c64r10, c64r11, c64r12, c64r13, c64r15, c64r17, EV0, EV1, EV2, EV3, EV4, EV5, EV6, EV7, EV8, VALS, plug, ite_same, decide_true, decide_false, eq_self, ↓reduceIte, reduceCtorEq, Nat.reduceAdd, Nat.reduceEqDiff, Nat.reduceLT, Nat.reduceLeDiff, Nat.reduceMul, Nat.reduceSub, Nat.reduceDiv, Int.reduceToNat, Int.reduceAdd, Int.reduceSub, Int.reduceMul, Int.reduceNeg, Int.reduceEq, Int.reduceLT, Int.reduceLE] <;> rfl)); all_goals fail) | ((refine PC.at r2 rfl ?_; refine .cons (.same (flT_plain _)) (.cons (.row ?_ (bl_plain _)) (.cons (.same rfl) (.cons (.same rfl) .nil))); (simp (disch := omega) only [hmy, c64r0, c64r1, c64r2, c64r3, c64r4, c64r5, c64r6, c64r7, c64r8, c64r9, c64r10, c64r11, c64r12, c64r13, c64r15, c64r17, EV0, EV1, EV2, EV3, EV4, EV5, EV6, EV7, EV8, VALS, plug, ite_same, decide_true, decide_false, eq_self, ↓reduceIte, reduceCtorEq, Nat.reduceAdd, Nat.reduceEqDiff, Nat.reduceLT, Nat.reduceLeDiff, Nat.reduceMul, Nat.reduceSub, Nat.reduceDiv, Int.reduceToNat, Int.reduceAdd, Int.reduceSub, Int.reduceMul, Int.reduceNeg, Int.reduceEq, Int.reduceLT, Int.reduceLE] <;> rfl)); all_goals fail) | ((refine PC.at r3 rfl ?_; refine .cons (.same (flT_plain _)) (.cons (.row ?_ (bl_plain _)) (.cons (.same rfl) (.cons (.same rfl) .nil))); (simp (disch := omega) only [hmy, c64r0, c64r1, c64r2, c64r3, c64r4, c64r5, c64r6, c64r7, c64r8, c64r9, c64r10, c64r11, c64r12, c64r13, c64r15, c64r17, EV0, EV1, EV2, EV3, EV4, EV5, EV6, EV7, EV8, VALS, plug, ite_same, decide_true, decide_false, eq_self, ↓reduceIte, reduceCtorEq, Nat.reduceAdd, Nat.reduceEqDiff, Nat.reduceLT, Nat.reduceLeDiff, Nat.reduceMul, Nat.reduceSub, Nat.reduceDiv, Int.reduceToNat, Int.reduceAdd, Int.reduceSub, Int.reduceMul, Int.reduceNeg, Int.reduceEq, Int.reduceLT, Int.reduceLE] <;> rfl)); all_goals fail) | ((refine PC.at r4 rfl ?_; refine .cons (.same (flT_plain _)) (.cons (.row ?_ (bl_plain _)) (.cons (.same rfl) (.cons (.same rfl) .nil))); (simp (disch := omega) only [hmy, c64r0, c64r1, c64r2, c64r3, c64r4, c64r5, c64r6, c64r7, c64r8, c64r9, c64r10, c64r11, c64r12, c64r13, c64r15, c64r17, EV0, EV1, EV2, EV3, EV4, EV5, EV6, EV7, EV8, VALS, plug, ite_same, decide_true, decide_false, eq_self, ↓reduceIte, reduceCtorEq, Nat.reduceAdd, Nat.reduceEqDiff, Nat.reduceLT, Nat.reduceLeDiff, Nat.reduceMul, Nat.reduceSub, Nat.reduceDiv, Int.reduceToNat, Int.reduceAdd, Int.reduceSub, Int.reduceMul, Int.reduceNeg, Int.reduceEq, Int.reduceLT, Int.reduceLE] <;> rfl)); all_goals fail) | ((refine PC.at r5 rfl ?_; refine .cons (.same (flT_plain _)) (.cons (.row ?_ (bl_plain _)) (.cons (.same rfl) (.cons (.same rfl) .nil))); (simp (disch := omega) only [hmy, c64r0, c64r1, c64r2, c64r3, c64r4, c64r5, c64r6, c64r7, c64r8, c64r9, c64r10, c64r11, c64r12, c64r13, c64r15, c64r17, EV0, EV1, EV2, EV3, EV4, EV5, EV6, EV7, EV8, VALS, plug, ite_same, decide_true, decide_false, eq_self, ↓reduceIte, reduceCtorEq, Nat.reduceAdd, Nat.reduceEqDiff, Nat.reduceLT, Nat.reduceLeDiff, Nat.reduceMul, Nat.reduceSub, Nat.reduceDiv, Int.reduceToNat, Int.reduceAdd, Int.reduceSub, Int.reduceMul, Int.reduceNeg, Int.reduceEq, Int.reduceLT, Int.reduceLE] <;> rfl)); all_goals fail) | ((refine PC.at r6 rfl ?_; refine .cons (.same (flT_plain _)) (.cons (.row ?_ (bl_plain _)) (.cons (.same rfl) (.cons (.same rfl) .nil))); (simp (disch := omega) only [hmy, c64r0, c64r1, c64r2, c64r3, c64r4, c64r5, c64r6, c64r7, c64r8, c64r9, c64r10, c64r11, c64r12, c64r13, c64r15, c64r17, EV0, EV1, EV2, EV3, EV4, EV5, EV6, EV7, EV8, VALS, plug, ite_same, decide_true, decide_false, eq_self, ↓reduceIte, reduceCtorEq, Nat.reduceAdd, Nat.reduceEqDiff, Nat.reduceLT, Nat.reduceLeDiff, Nat.reduceMul, Nat.reduceSub, Nat.reduceDiv, Int.reduceToNat, Int.reduceAdd, Int.reduceSub, Int.reduceMul, Int.reduceNeg, Int.reduceEq, Int.reduceLT, Int.reduceLE] <;> rfl)); all_goals fail)) rfl ?_)
          | ((with_reducible refine chk_h ?_); refine hr_callP (by simp only [CA, Nat.reduceEqDiff, ↓reduceIte]; rfl) (by simp only [CA, Nat.reduceEqDiff, ↓reduceIte]; rfl) (by first | exact q68 _ | ((refine PC.at r1 rfl ?_; refine .cons (.same (flT_plain _)) (.cons (.row ?_ (bl_plain _)) (.cons (.same rfl) (.cons (.same rfl) .nil))); (simp (disch := omega) only [hmy, c64r0, c64r1, c64r2, c64r3, c64r4, c64r5, c64r6, c64r7, c64r8, c64r9, c64r10, c64r11, c64r12, c64r13, c64r15, c64r17, EV0, EV1, EV2, EV3, EV4, EV5, EV6, EV7, EV8, VALS, plug, ite_same, decide_true, decide_false, eq_self, ↓reduceIte, reduceCtorEq, Nat.reduceAdd, Nat.reduceEqDiff, Nat.reduceLT, Nat.reduceLeDiff, Nat.reduceMul, Nat.reduceSub, Nat.reduceDiv, Int.reduceToNat, Int.reduceAdd, Int.reduceSub, Int.reduceMul, Int.reduceNeg, Int.reduceEq, Int.reduceLT, Int.reduceLE] <;> rfl)); all_goals fail) | ((refine PC.at r2 rfl ?_; refine .cons (.same (flT_plain _)) (.cons (.row ?_ (bl_plain _)) (.cons (.same rfl) (.cons (.same rfl) .nil))); (simp (disch := omega) only [hmy, c64r0, c64r1, c64r2, c64r3, c64r4, c64r5, c64r6, c64r7, c64r8, c64r9, c64r10, c64r11, c64r12, c64r13, c64r15, c64r17, EV0, EV1, EV2, EV3, EV4, EV5, EV6, EV7, EV8, VALS, plug, ite_same, decide_true, decide_false, eq_self, ↓reduceIte, reduceCtorEq, Nat.reduceAdd, Nat.reduceEqDiff, Nat.reduceLT, Nat.reduceLeDiff, Nat.reduceMul, Nat.reduceSub, Nat.reduceDiv, Int.reduceToNat, Int.reduceAdd, Int.reduceSub, Int.reduceMul, Int.reduceNeg, Int.reduceEq, Int.reduceLT, Int.reduceLE] <;> rfl)); all_goals fail) | ((refine PC.at r3 rfl ?_; refine .cons (.same (flT_plain _)) (.cons (.row ?_ (bl_plain _)) (.cons (.same rfl) (.cons (.same rfl) .nil))); (simp (disch := omega) only [hmy, c64r0, c64r1, c64r2, c64r3, c64r4, c64r5, c64r6, c64r7, c64r8, c64r9, c64r10, c64r11, c64r12, c64r13, c64r15, c64r17, EV0, EV1, EV2, EV3, EV4, EV5, EV6, EV7, EV8, VALS, plug, ite_same, decide_true, decide_false, eq_self, ↓reduceIte, reduceCtorEq, Nat.reduceAdd, Nat.reduceEqDiff, Nat.reduceLT, Nat.reduceLeDiff, Nat.reduceMul, Nat.reduceSub, Nat.reduceDiv, Int.reduceToNat, Int.reduceAdd, Int.reduceSub, Int.reduceMul, Int.reduceNeg, Int.reduceEq, Int.reduceLT, Int.reduceLE] <;> rfl)); all_goals fail) | ((refine PC.at r4 rfl ?_; refine .cons (.same (flT_plain _)) (.cons (.row ?_ (bl_plain _)) (.cons (.same rfl) (.cons (.same rfl) .nil))); (simp (disch := omega) only [hmy, c64r0, c64r1, c64r2, c64r3, c64r4, c64r5, c64r6, c64r7, c64r8, c64r9, c64r10, c64r11, c64r12, c64r13, c64r15, c64r17, EV0, EV1, EV2, EV3, EV4, EV5, EV6, EV7, EV8, VALS, plug, ite_same, decide_true, decide_false, eq_self, ↓reduceIte, reduceCtorEq, Nat.reduceAdd, Nat.reduceEqDiff, Nat.reduceLT, Nat.reduceLeDiff, Nat.reduceMul, Nat.reduceSub, Nat.reduceDiv, Int.reduceToNat, Int.reduceAdd, Int.reduceSub, Int.reduceMul, Int.reduceNeg, Int.reduceEq, Int.reduceLT, Int.reduceLE] <;> rfl)); all_goals fail) | ((refine PC.at r5 rfl ?_; refine .cons (.same (flT_plain _)) (.cons (.row ?_ (bl_plain _)) (.cons (.same rfl) (.cons (.same rfl) .nil))); (simp (disch := omega) only [hmy, c64r0, c64r1, c64r2, c64r3, c64r4, c64r5, c64r6, c64r7, c64r8, c64r9, c64r10, c64r11, c64r12, c64r13, c64r15, c64r17, EV0, EV1, EV2, EV3, EV4, EV5, EV6, EV7, EV8, VALS, plug, ite_same, decide_true, decide_false, eq_self, ↓reduceIte, reduceCtorEq, Nat.reduceAdd, Nat.reduceEqDiff, Nat.reduceLT, Nat.reduceLeDiff, Nat.reduceMul, Nat.reduceSub, Nat.reduceDiv, Int.reduceToNat, Int.reduceAdd, Int.reduceSub, Int.reduceMul, Int.reduceNeg, Int.reduceEq, Int.reduceLT, Int.reduceLE] <;> rfl)); all_goals fail) | ((refine PC.at r6 rfl ?_; refine .cons (.same (flT_plain _)) (.cons (.row ?_ (bl_plain _)) (.cons (.same rfl) (.cons (.same rfl) .nil))); (simp (disch := omega) only [hmy, c64r0, c64r1, c64r2, c64r3, c64r4, c64r5, c64r6, c64r7, c64r8, c64r9, c64r10, c64r11, c64r12, c64r13, c64r15, c64r17, EV0, EV1, EV2, EV3, EV4, EV5, EV6, EV7, EV8, VALS, plug, ite_same, decide_true, decide_false, eq_self, ↓reduceIte, reduceCtorEq, Nat.reduceAdd, Nat.reduceEqDiff, Nat.reduceLT, Nat.reduceLeDiff, Nat.reduceMul, Nat.reduceSub, Nat.reduceDiv, Int.reduceToNat, Int.reduceAdd, Int.reduceSub, Int.reduceMul, Int.reduceNeg, Int.reduceEq, Int.reduceLT, Int.reduceLE] <;> rfl)); all_goals fail)) rfl ?_)
          | ((with_reducible refine chk_h ?_); refine hr_callP1 (by simp only [CA, Nat.reduceEqDiff, ↓reduceIte]; rfl) (by simp only [CA, Nat.reduceEqDiff, ↓reduceIte]; rfl) (by simp (disch := omega) only [CA, Nat.reduceEqDiff, ↓reduceIte, firstTok_nil, firstTok_sl, firstTok_sl0, firstTok_i, firstTok_b, firstTok_ag, firstTok_p, firstTok_s]; rfl) (by first | exact q68 _ | ((refine PC.at r1 rfl ?_; refine .cons (.same (flT_plain _)) (.cons (.row ?_ (bl_plain _)) (.cons (.same rfl) (.cons (.same rfl) .nil))); (simp (disch := omega) only [hmy, c64r0, c64r1, c64r2, c64r3, c64r4, c64r5, c64r6, c64r7, c64r8, c64r9, c64r10, c64r11, c64r12, c64r13, c64r15, c64r17, EV0, EV1, EV2, EV3, EV4, EV5, EV6, EV7, EV8, VALS, plug, ite_same, decide_true, decide_false, eq_self, ↓reduceIte, reduceCtorEq, Nat.reduceAdd, Nat.reduceEqDiff, Nat.reduceLT, Nat.reduceLeDiff, Nat.reduceMul, Nat.reduceSub, Nat.reduceDiv, Int.reduceToNat, Int.reduceAdd, Int.reduceSub, Int.reduceMul, Int.reduceNeg, Int.reduceEq, Int.reduceLT, Int.reduceLE] <;> rfl)); all_goals fail) | ((refine PC.at r2 rfl ?_; refine .cons (.same (flT_plain _)) (.cons (.row ?_ (bl_plain _)) (.cons (.same rfl) (.cons (.same rfl) .nil))); (simp (disch := omega) only [hmy, c64r0, c64r1, c64r2, c64r3, c64r4, c64r5, c64r6, c64r7, c64r8, c64r9, c64r10, c64r11, c64r12, c64r13, c64r15, c64r17, EV0, EV1, EV2, EV3, EV4, EV5, EV6, EV7, EV8, VALS, plug, ite_same, decide_true, decide_false, eq_self, ↓reduceIte, reduceCtorEq, Nat.reduceAdd, Nat.reduceEqDiff, Nat.reduceLT, Nat.reduceLeDiff, Nat.reduceMul, Nat.reduceSub, Nat.reduceDiv, Int.reduceToNat, Int.reduceAdd, Int.reduceSub, Int.reduceMul, Int.reduceNeg, Int.reduceEq, Int.reduceLT, Int.reduceLE] <;> rfl)); all_goals fail) | ((refine PC.at r3 rfl ?_; refine .cons (.same (flT_plain _)) (.cons (.row ?_ (bl_plain _)) (.cons (.same rfl) (.cons (.same rfl) .nil))); (simp (disch := omega) only [hmy, c64r0, c64r1, c64r2, c64r3, c64r4, c64r5, c64r6, c64r7, c64r8, c64r9, c64r10, c64r11, c64r12, c64r13, c64r15, c64r17, EV0, EV1, EV2, EV3, EV4, EV5, EV6, EV7, EV8, VALS, plug, ite_same, decide_true, decide_false, eq_self, ↓reduceIte, reduceCtorEq, Nat.reduceAdd, Nat.reduceEqDiff, Nat.reduceLT, Nat.reduceLeDiff, Nat.reduceMul, Nat.reduceSub, Nat.reduceDiv, Int.reduceToNat, Int.reduceAdd, Int.reduceSub, Int.reduceMul, Int.reduceNeg, Int.reduceEq, Int.reduceLT, Int.reduceLE] <;> rfl)); all_goals fail) | ((refine PC.at r4 rfl ?_; refine .cons (.same (flT_plain _)) (.cons (.row ?_ (bl_plain _)) (.cons (.same rfl) (.cons (.same rfl) .nil))); (simp (disch := omega) only [hmy, c64r0, c64r1, c64r2, c64r3, c64r4, c64r5, c64r6, c64r7, c64r8, c64r9, c64r10, c64r11, c64r12, c64r13, c64r15, c64r17, EV0, EV1, EV2, EV3, EV4, EV5, EV6, EV7, EV8, VALS, plug, ite_same, decide_true, decide_false, eq_self, ↓reduceIte, reduceCtorEq, Nat.reduceAdd, Nat.reduceEqDiff, Nat.reduceLT, Nat.reduceLeDiff, Nat.reduceMul, Nat.reduceSub, Nat.reduceDiv, Int.reduceToNat, Int.reduceAdd, Int.reduceSub, Int.reduceMul, Int.reduceNeg, Int.reduceEq, Int.reduceLT, Int.reduceLE] <;> rfl)); all_goals fail) | ((refine PC.at r5 rfl ?_; refine .cons (.same (flT_plain _)) (.cons (.row ?_ (bl_plain _)) (.cons (.same rfl) (.cons (.same rfl) .nil))); (simp (disch := omega) only [hmy, c64r0, c64r1, c64r2, c64r3, c64r4, c64r5, c64r6, c64r7, c64r8, c64r9, c64r10, c64r11, c64r12, c64r13, c64r15, c64r17, EV0, EV1, EV2, EV3, EV4, EV5, EV6, EV7, EV8, VALS, plug, ite_same, decide_true, decide_false, eq_self, ↓reduceIte, reduceCtorEq, Nat.reduceAdd, Nat.reduceEqDiff, Nat.reduceLT, Nat.reduceLeDiff, Nat.reduceMul, Nat.reduceSub, Nat.reduceDiv, Int.reduceToNat, Int.reduceAdd, Int.reduceSub, Int.reduceMul, Int.reduceNeg, Int.reduceEq, Int.reduceLT, Int.reduceLE] <;> rfl)); all_goals fail) | ((refine PC.at r6 rfl ?_; refine .cons (.same (flT_plain _)) (.cons (.row ?_ (bl_plain _)) (.cons (.same rfl) (.cons (.same rfl) .nil))); (simp (disch := omega) only [hmy, c64r0, c64r1, c64r2, c64r3, c64r4, c64r5, c64r6, c64r7, c64r8, c64r9, c64r10, c64r11, c64r12, c64r13, c64r15, c64r17, EV0, EV1, EV2, EV3, EV4, EV5, EV6, EV7, EV8, VALS, plug, ite_same, decide_true, decide_false, eq_self, ↓reduceIte, reduceCtorEq, Nat.reduceAdd, Nat.reduceEqDiff, Nat.reduceLT, Nat.reduceLeDiff, Nat.reduceMul, Nat.reduceSub, Nat.reduceDiv, Int.reduceToNat, Int.reduceAdd, Int.reduceSub, Int.reduceMul, Int.reduceNeg, Int.reduceEq, Int.reduceLT, Int.reduceLE] <;> rfl)); all_goals fail)) rfl ?_)
          | ((with_reducible refine chk_h ?_); refine hr_app (by simp (disch := omega) only [rA, rB, a2, b2, hdI_cons, hx, hm, hmy, hg, row_m hmy, read_row (row_m hmy), flP_len, flP_snoc, List.length_set, c64r0, c64r1, c64r2, c64r3, c64r4, c64r5, c64r6, c64r7, c64r8, c64r9, c64r10, c64r11, c64r12, c64r13, c64r15, c64r17, EV0, EV1, EV2, EV3, EV4, EV5, EV6, EV7, EV8, VALS, plug, ite_same, decide_true, decide_false, eq_self, ↓reduceIte, reduceCtorEq, Nat.reduceAdd, Nat.reduceEqDiff, Nat.reduceLT, Nat.reduceLeDiff, Nat.reduceMul, Nat.reduceSub, Nat.reduceDiv, Int.reduceToNat, Int.reduceAdd, Int.reduceSub, Int.reduceMul, Int.reduceNeg, Int.reduceEq, Int.reduceLT, Int.reduceLE]; with_reducible rfl) rfl ?_)
          | (with_reducible refine k_condP (by simp only [GA, Nat.reduceEqDiff, ↓reduceIte]; rfl) (by first | (simp only [BO]; rfl) | rfl) (fun ht => ?_) (fun ht => ?_) <;> try (first | exact False.elim ht | exact absurd rfl ht | exact absurd trivial ht | exact Bool.noConfusion ht))
          | (with_reducible refine k_ret ?_; repeat with_reducible (first | refine ret_thru ?_ | refine ret_blk ?_ | refine fin ?_))
          | (with_reducible refine k_exit ?_; repeat with_reducible (first | refine thru ?_ | refine out_blk ?_ | refine pass (by decide) ?_))
          | (refine post1 ?_; simp only [GA, Nat.reduceEqDiff, ↓reduceIte])
          | (refine post2 ?_; simp only [GA, Nat.reduceEqDiff, ↓reduceIte])
          | (refine post3 ?_; simp only [GA, Nat.reduceEqDiff, ↓reduceIte])
          | (refine postc (by simp only [GA, Nat.reduceEqDiff, ↓reduceIte]; rfl) (by simp (disch := omega) only [rA, rB, a2, b2, hdI_cons, hx, hm, hmy, hg, row_m hmy, read_row (row_m hmy), flP_len, flP_snoc, List.length_set, c64r0, c64r1, c64r2, c64r3, c64r4, c64r5, c64r6, c64r7, c64r8, c64r9, c64r10, c64r11, c64r12, c64r13, c64r15, c64r17, EV0, EV1, EV2, EV3, EV4, EV5, EV6, EV7, EV8, VALS, plug, ite_same, decide_true, decide_false, eq_self, ↓reduceIte, reduceCtorEq, Nat.reduceAdd, Nat.reduceEqDiff, Nat.reduceLT, Nat.reduceLeDiff, Nat.reduceMul, Nat.reduceSub, Nat.reduceDiv, Int.reduceToNat, Int.reduceAdd, Int.reduceSub, Int.reduceMul, Int.reduceNeg, Int.reduceEq, Int.reduceLT, Int.reduceLE]; rfl) ?_)
          | refine post0 ?_
        all_goals try (exfalso; omega)
        · rw [if_pos (by first | assumption | (simp only [Bool.and_eq_true, Bool.or_eq_true, decide_eq_true_eq]; assumption))] at e
          refine ⟨(?tk, y, _, acc ++ [(a, b)], xs, ys), ?gm, ?g1, ?g2, ?g3, ?g4, ?g5, ?g6, gab, X1, Y1, l1, ?g7, ?g8⟩
          case g1 =>
            simp only [Am.keep, List.map_cons, List.map_nil, GA, Nat.reduceEqDiff, ↓reduceIte, List.length_append, List.length_cons, List.length_nil, Nat.zero_add, Nat.add_sub_cancel]
            rfl
          case gm => simp only [List.length_cons]; omega
          case g2 => simp only []; omega
          case g3 => exact hy
          case g4 => simp only []; omega
          case g5 => simp only []; rw [List.append_assoc]; exact e
          case g6 => (try simp only [List.length_append, List.length_cons, List.length_nil]); omega
          case g7 => simp (disch := omega) only [flP_snoc, c64r0, c64r1, c64r2, c64r3, c64r4, c64r5, c64r6, c64r7, c64r8, c64r9, c64r10, c64r11, c64r12, c64r13, c64r15, c64r17, EV0, EV1, EV2, EV3, EV4, EV5, EV6, EV7, EV8, VALS, plug, ite_same, decide_true, decide_false, eq_self, ↓reduceIte, reduceCtorEq, Nat.reduceAdd, Nat.reduceEqDiff, Nat.reduceLT, Nat.reduceLeDiff, Nat.reduceMul, Nat.reduceSub, Nat.reduceDiv, Int.reduceToNat, Int.reduceAdd, Int.reduceSub, Int.reduceMul, Int.reduceNeg, Int.reduceEq, Int.reduceLT, Int.reduceLE] <;> rfl
          case g8 => simp (disch := omega) only [hmy, c64r0, c64r1, c64r2, c64r3, c64r4, c64r5, c64r6, c64r7, c64r8, c64r9, c64r10, c64r11, c64r12, c64r13, c64r15, c64r17, EV0, EV1, EV2, EV3, EV4, EV5, EV6, EV7, EV8, VALS, plug, ite_same, decide_true, decide_false, eq_self, ↓reduceIte, reduceCtorEq, Nat.reduceAdd, Nat.reduceEqDiff, Nat.reduceLT, Nat.reduceLeDiff, Nat.reduceMul, Nat.reduceSub, Nat.reduceDiv, Int.reduceToNat, Int.reduceAdd, Int.reduceSub, Int.reduceMul, Int.reduceNeg, Int.reduceEq, Int.reduceLT, Int.reduceLE] <;> rfl
        · rw [if_neg (by first | assumption | (simp only [Bool.and_eq_true, Bool.or_eq_true, decide_eq_true_eq]; assumption)), if_pos (by first | assumption | (simp only [Bool.and_eq_true, Bool.or_eq_true, decide_eq_true_eq]; assumption))] at e
          refine ⟨(x, y, _, acc, xs, b :: ys), ?gm, ?g1, hx, hy, hyx, e, ?g4, ga', X2, Y2, l2, ?g7, ?g8⟩
          case g1 =>
            simp only [Am.keep, List.map_cons, List.map_nil, GA, Nat.reduceEqDiff, ↓reduceIte, List.length_append, List.length_cons, List.length_nil, Nat.zero_add, Nat.add_sub_cancel]
            try rfl
          case gm => simp only [List.length_cons]; omega
          case g4 => (try simp only [List.length_append, List.length_cons, List.length_nil]); omega
          case g7 => simp (disch := omega) only [hm, c64r0, c64r1, c64r2, c64r3, c64r4, c64r5, c64r6, c64r7, c64r8, c64r9, c64r10, c64r11, c64r12, c64r13, c64r15, c64r17, EV0, EV1, EV2, EV3, EV4, EV5, EV6, EV7, EV8, VALS, plug, ite_same, decide_true, decide_false, eq_self, ↓reduceIte, reduceCtorEq, Nat.reduceAdd, Nat.reduceEqDiff, Nat.reduceLT, Nat.reduceLeDiff, Nat.reduceMul, Nat.reduceSub, Nat.reduceDiv, Int.reduceToNat, Int.reduceAdd, Int.reduceSub, Int.reduceMul, Int.reduceNeg, Int.reduceEq, Int.reduceLT, Int.reduceLE]
          case g8 => simp (disch := omega) only [hmy, c64r0, c64r1, c64r2, c64r3, c64r4, c64r5, c64r6, c64r7, c64r8, c64r9, c64r10, c64r11, c64r12, c64r13, c64r15, c64r17, EV0, EV1, EV2, EV3, EV4, EV5, EV6, EV7, EV8, VALS, plug, ite_same, decide_true, decide_false, eq_self, ↓reduceIte, reduceCtorEq, Nat.reduceAdd, Nat.reduceEqDiff, Nat.reduceLT, Nat.reduceLeDiff, Nat.reduceMul, Nat.reduceSub, Nat.reduceDiv, Int.reduceToNat, Int.reduceAdd, Int.reduceSub, Int.reduceMul, Int.reduceNeg, Int.reduceEq, Int.reduceLT, Int.reduceLE] <;> rfl
        · rw [if_neg (by first | assumption | (simp only [Bool.and_eq_true, Bool.or_eq_true, decide_eq_true_eq]; assumption)), if_neg (by first | assumption | (simp only [Bool.and_eq_true, Bool.or_eq_true, decide_eq_true_eq]; assumption))] at e
          refine ⟨(x, y, _, acc, a :: xs, ys), ?gm, ?g1, hx, hy, hyx, e, ?g4, gb', X3, Y3, l3, ?g7, ?g8⟩
          case g1 =>
            simp only [Am.keep, List.map_cons, List.map_nil, GA, Nat.reduceEqDiff, ↓reduceIte, List.length_append, List.length_cons, List.length_nil, Nat.zero_add, Nat.add_sub_cancel]
            try rfl
          case gm => simp only [List.length_cons]; omega
          case g4 => (try simp only [List.length_append, List.length_cons, List.length_nil]); omega
          case g7 => simp (disch := omega) only [hm, c64r0, c64r1, c64r2, c64r3, c64r4, c64r5, c64r6, c64r7, c64r8, c64r9, c64r10, c64r11, c64r12, c64r13, c64r15, c64r17, EV0, EV1, EV2, EV3, EV4, EV5, EV6, EV7, EV8, VALS, plug, ite_same, decide_true, decide_false, eq_self, ↓reduceIte, reduceCtorEq, Nat.reduceAdd, Nat.reduceEqDiff, Nat.reduceLT, Nat.reduceLeDiff, Nat.reduceMul, Nat.reduceSub, Nat.reduceDiv, Int.reduceToNat, Int.reduceAdd, Int.reduceSub, Int.reduceMul, Int.reduceNeg, Int.reduceEq, Int.reduceLT, Int.reduceLE]
          case g8 => simp (disch := omega) only [hmy, c64r0, c64r1, c64r2, c64r3, c64r4, c64r5, c64r6, c64r7, c64r8, c64r9, c64r10, c64r11, c64r12, c64r13, c64r15, c64r17, EV0, EV1, EV2, EV3, EV4, EV5, EV6, EV7, EV8, VALS, plug, ite_same, decide_true, decide_false, eq_self, ↓reduceIte, reduceCtorEq, Nat.reduceAdd, Nat.reduceEqDiff, Nat.reduceLT, Nat.reduceLeDiff, Nat.reduceMul, Nat.reduceSub, Nat.reduceDiv, Int.reduceToNat, Int.reduceAdd, Int.reduceSub, Int.reduceMul, Int.reduceNeg, Int.reduceEq, Int.reduceLT, Int.reduceLE] <;> rfl
  · obtain rfl : k = 9 := by omega
    have c1 : ¬ ((10 : Nat) : Int) ≤ 9 := by omega
    repeat' first
      | with_reducible refine k_seq ?_
      | with_reducible refine k_skip ?_
      | with_reducible refine k_blkS ?_
      | with_reducible refine k_blkR ?_
      | with_reducible refine k_blkC ?_
      | with_reducible refine k_blkH ?_
      | with_reducible refine k_blkB ?_
      | with_reducible refine k_blkK ?_
      | with_reducible refine k_blkE ?_
      | with_reducible refine k_reg ?_
      | with_reducible refine k_head (by with_unfolding_all rfl) ?_
      | with_reducible refine k_headS ?_
      | (with_reducible refine SepK.mk ?_ ?_; (refine sepQ_P ?_; simp [sepQ, sepG, AOp.late, AOp.free, AOp.xs, AOp.isAl, tokNe, AV.tok, stS_get, strip, AX.val, c64r0, c64r1, c64r2, c64r3, c64r4, c64r5, c64r6, c64r7, c64r8, c64r9, c64r10, c64r11, c64r12, c64r13, c64r15, c64r17, GA]; try omega))
      | with_reducible refine r_done ?_
      | with_reducible refine hr_done ?_
      | with_reducible refine s_go (by simp (disch := omega) only [c1, c64r0, c64r1, c64r2, c64r3, c64r4, c64r5, c64r6, c64r7, c64r8, c64r9, c64r10, c64r11, c64r12, c64r13, c64r15, c64r17, EV0, EV1, EV2, EV3, EV4, EV5, EV6, EV7, EV8, VALS, plug, ite_same, decide_true, decide_false, eq_self, ↓reduceIte, reduceCtorEq, Nat.reduceAdd, Nat.reduceEqDiff, Nat.reduceLT, Nat.reduceLeDiff, Nat.reduceMul, Nat.reduceSub, Nat.reduceDiv, Int.reduceToNat, Int.reduceAdd, Int.reduceSub, Int.reduceMul, Int.reduceNeg, Int.reduceEq, Int.reduceLT, Int.reduceLE]; with_reducible rfl) ?_
      | with_reducible refine h_go (by with_unfolding_all rfl) (by simp (disch := omega) only [c1, c64r0, c64r1, c64r2, c64r3, c64r4, c64r5, c64r6, c64r7, c64r8, c64r9, c64r10, c64r11, c64r12, c64r13, c64r15, c64r17, EV0, EV1, EV2, EV3, EV4, EV5, EV6, EV7, EV8, VALS, plug, ite_same, decide_true, decide_false, eq_self, ↓reduceIte, reduceCtorEq, Nat.reduceAdd, Nat.reduceEqDiff, Nat.reduceLT, Nat.reduceLeDiff, Nat.reduceMul, Nat.reduceSub, Nat.reduceDiv, Int.reduceToNat, Int.reduceAdd, Int.reduceSub, Int.reduceMul, Int.reduceNeg, Int.reduceEq, Int.reduceLT, Int.reduceLE]; with_reducible rfl) ?_
      | ((with_reducible refine chk_r ?_); refine r_callF (by simp only [CA, Nat.reduceEqDiff, ↓reduceIte]; rfl) (by exact rfl) (by simp only [CA, Nat.reduceEqDiff, ↓reduceIte]; rfl) rfl ?_)
      | ((with_reducible refine chk_h ?_); refine hr_callF (by simp only [CA, Nat.reduceEqDiff, ↓reduceIte]; rfl) (by exact rfl) (by simp only [CA, Nat.reduceEqDiff, ↓reduceIte]; rfl) rfl ?_)
      | ((with_reducible refine chk_h ?_); refine hr_app (by simp (disch := omega) only [c1, c64r0, c64r1, c64r2, c64r3, c64r4, c64r5, c64r6, c64r7, c64r8, c64r9, c64r10, c64r11, c64r12, c64r13, c64r15, c64r17, EV0, EV1, EV2, EV3, EV4, EV5, EV6, EV7, EV8, VALS, plug, ite_same, decide_true, decide_false, eq_self, ↓reduceIte, reduceCtorEq, Nat.reduceAdd, Nat.reduceEqDiff, Nat.reduceLT, Nat.reduceLeDiff, Nat.reduceMul, Nat.reduceSub, Nat.reduceDiv, Int.reduceToNat, Int.reduceAdd, Int.reduceSub, Int.reduceMul, Int.reduceNeg, Int.reduceEq, Int.reduceLT, Int.reduceLE]; with_reducible rfl) rfl ?_)
      | (with_reducible refine k_condP (by simp only [GA, Nat.reduceEqDiff, ↓reduceIte]; rfl) (by first | (simp only [BO]; rfl) | rfl) (fun ht => ?_) (fun ht => ?_) <;> try (first | exact False.elim ht | exact absurd rfl ht | exact absurd trivial ht | exact Bool.noConfusion ht))
      | (with_reducible refine k_ret ?_; repeat with_reducible (first | refine ret_thru ?_ | refine ret_blk ?_ | refine fin ?_))
      | (with_reducible refine k_exit ?_; repeat with_reducible (first | refine thru ?_ | refine out_blk ?_ | refine pass (by decide) ?_))
      | (refine post1 ?_; simp only [GA, Nat.reduceEqDiff, ↓reduceIte])
      | (refine post2 ?_; simp only [GA, Nat.reduceEqDiff, ↓reduceIte])
      | (refine post3 ?_; simp only [GA, Nat.reduceEqDiff, ↓reduceIte])
      | (refine postc (by simp only [GA, Nat.reduceEqDiff, ↓reduceIte]; rfl) (by simp (disch := omega) only [c1, c64r0, c64r1, c64r2, c64r3, c64r4, c64r5, c64r6, c64r7, c64r8, c64r9, c64r10, c64r11, c64r12, c64r13, c64r15, c64r17, EV0, EV1, EV2, EV3, EV4, EV5, EV6, EV7, EV8, VALS, plug, ite_same, decide_true, decide_false, eq_self, ↓reduceIte, reduceCtorEq, Nat.reduceAdd, Nat.reduceEqDiff, Nat.reduceLT, Nat.reduceLeDiff, Nat.reduceMul, Nat.reduceSub, Nat.reduceDiv, Int.reduceToNat, Int.reduceAdd, Int.reduceSub, Int.reduceMul, Int.reduceNeg, Int.reduceEq, Int.reduceLT, Int.reduceLE]; rfl) ?_)
      | refine post0 ?_
    exact ends_sl (k := 2) hm (by rw [flP_len])
end Go.Proofs.Ytbhkbaapfioijaa
