import Derived.Test.YtbhkbaapfioijaaTmC
import Derived.Test.YtbhkbaapfioijaaAmZm
set_option linter.unusedVariables false
set_option linter.unusedSimpArgs false
namespace Go.Proofs.Ytbhkbaapfioijaa
open Go Go.Am Go.Proofs

/-! ### Temples -/
structure T where
  num : Int
  side : Int
  len : Int
  col : Int
def eT (t : T) : List AV := [.i .i64 t.num, .i .i64 t.side, .i .i64 t.len, .i .i64 t.col]
def T0 : T := ⟨0, 0, 0, 0⟩
theorem eT_len (t : T) : (eT t).length = 4 := rfl
theorem eT_plain (t : T) : AV.plains (eT t) = true := rfl
theorem flT_plain (l : List T) : AV.plains (fl eT l) = true := fl_plain eT_plain l
theorem flT_len (l : List T) : (fl eT l).length = l.length * 4 := fl_len eT_len l
theorem rdT {l : List T} {j : Nat} (h : j < l.length) : rd (fl eT l) (j * 4) (some 4) = some (.ag (eT (l.getD j T0))) := fl_rd eT_len T0 h
theorem getT {l : List T} {j c : Nat} (h : j < l.length) (hc : c < 4) : (fl eT l)[j * 4 + c]? = (eT (l.getD j T0))[c]? := fl_get eT_len T0 h hc
theorem getT0 {l : List T} {j : Nat} (h : j < l.length) : (fl eT l)[j * 4]? = some (.i .i64 (l.getD j T0).num) := getT (c := 0) h (by omega)
theorem getT1 {l : List T} {j : Nat} (h : j < l.length) : (fl eT l)[j * 4 + 1]? = some (.i .i64 (l.getD j T0).side) := getT h (by omega)
theorem getT2 {l : List T} {j : Nat} (h : j < l.length) : (fl eT l)[j * 4 + 2]? = some (.i .i64 (l.getD j T0).len) := getT h (by omega)
theorem getT3 {l : List T} {j : Nat} (h : j < l.length) : (fl eT l)[j * 4 + 3]? = some (.i .i64 (l.getD j T0).col) := getT h (by omega)
abbrev vT (l : List T) : AV := .vs l.length (fl eT l)

def vt (t : T) : Bool := decide (1 ≤ t.num ∧ t.num ≤ 1000000000 ∧ 1 ≤ t.side ∧ t.side ≤ 2 ∧ 1 ≤ t.len ∧ t.len ≤ 2000 ∧ 1 ≤ t.col ∧ t.col ≤ 9)
theorem pc63 (t : T) : PC Try.prog 63 [.ag (eT t)] (.b (vt t)) := by
  refine pc_fn fn63 (by simp only [AV.plains, AV.plain, il_plain, bl_plain, Bool.and_true, Bool.true_and, Bool.and_self, eT_plain]) (by simp only [AV.plains, AV.plain, il_plain, bl_plain, Bool.and_true, Bool.true_and, Bool.and_self, eT_plain]) (Nat.le_of_ble_eq_true rfl) ?_
  rw [initSt1]
  repeat' first
    | with_reducible refine k_seq ?_
    | with_reducible refine k_skip ?_
    | with_reducible refine k_blkS ?_
    | with_reducible refine k_blkR ?_
    | with_reducible refine k_blkC ?_
    | with_reducible refine k_blkH ?_
    | with_reducible refine k_blkB ?_
    | with_reducible refine k_blkK ?_
    | with_reducible refine k_blkE ?_
    | with_reducible refine k_reg ?_
    | with_reducible refine r_done ?_
    | with_reducible refine s_go (by simp (disch := omega) only [eT, c63r0, c63r1, EV0, EV1, EV2, EV3, EV4, EV5, EV6, EV7, EV8, VALS, plug, ite_same, decide_true, decide_false, eq_self, ↓reduceIte, reduceCtorEq, Nat.reduceAdd, Nat.reduceEqDiff, Nat.reduceLT, Nat.reduceLeDiff, Nat.reduceMul, Nat.reduceSub, Nat.reduceDiv, Int.reduceToNat, Int.reduceAdd, Int.reduceSub, Int.reduceMul, Int.reduceNeg, Int.reduceEq, Int.reduceLT, Int.reduceLE]; with_reducible rfl) ?_
    | ((with_reducible refine chk_r ?_); refine r_callF (by simp only [CA, Nat.reduceEqDiff, ↓reduceIte]; rfl) (by exact rfl) (by simp only [CA, Nat.reduceEqDiff, ↓reduceIte]; rfl) rfl ?_)
    | ((with_reducible refine chk_r ?_); refine r_callP (by simp only [CA, Nat.reduceEqDiff, ↓reduceIte]; rfl) (by simp only [CA, Nat.reduceEqDiff, ↓reduceIte]; rfl) (by first | exact pc71 _ _ _ _) rfl ?_)
    | ((with_reducible refine chk_r ?_); refine r_callG (by simp only [CA, Nat.reduceEqDiff, ↓reduceIte]; rfl) (by simp only [CA, Nat.reduceEqDiff, ↓reduceIte]; rfl) (by simp only [CA, Nat.reduceEqDiff, ↓reduceIte]; rfl) (by intro hg; (try simp only [BO] at hg); first | exact pc71 _ _ _ _) rfl ?_)
    | (with_reducible refine k_condP (by simp only [GA, Nat.reduceEqDiff, ↓reduceIte]; rfl) (by first | (simp only [BO]; rfl) | rfl) (fun ht => ?_) (fun ht => ?_) <;> try (first | exact False.elim ht | exact absurd rfl ht | exact absurd trivial ht | exact Bool.noConfusion ht))
    | (with_reducible refine k_ret ?_; repeat with_reducible (first | refine ret_thru ?_ | refine ret_blk ?_ | refine fin ?_))
    | (with_reducible refine k_exit ?_; repeat with_reducible (first | refine thru ?_ | refine out_blk ?_ | refine pass (by decide) ?_))
    | (refine post1 ?_; simp only [GA, Nat.reduceEqDiff, ↓reduceIte])
    | (refine post2 ?_; simp only [GA, Nat.reduceEqDiff, ↓reduceIte])
    | (refine post3 ?_; simp only [GA, Nat.reduceEqDiff, ↓reduceIte])
    | (refine postc (by simp only [GA, Nat.reduceEqDiff, ↓reduceIte]; rfl) (by simp (disch := omega) only [eT, c63r0, c63r1, EV0, EV1, EV2, EV3, EV4, EV5, EV6, EV7, EV8, VALS, plug, ite_same, decide_true, decide_false, eq_self, ↓reduceIte, reduceCtorEq, Nat.reduceAdd, Nat.reduceEqDiff, Nat.reduceLT, Nat.reduceLeDiff, Nat.reduceMul, Nat.reduceSub, Nat.reduceDiv, Int.reduceToNat, Int.reduceAdd, Int.reduceSub, Int.reduceMul, Int.reduceNeg, Int.reduceEq, Int.reduceLT, Int.reduceLE]; rfl) ?_)
    | refine post0 ?_
  refine ends_eq (b_eq ?_); rw [Bool.eq_iff_iff]
  simp [vt]
  omega
theorem pc48 (t : T) : PC Try.prog 48 [.ag (eT t)] (.b (vt t)) := by
  refine pc_fn fn48 (by simp only [AV.plains, AV.plain, il_plain, bl_plain, Bool.and_true, Bool.true_and, Bool.and_self, eT_plain]) (by simp only [AV.plains, AV.plain, il_plain, bl_plain, Bool.and_true, Bool.true_and, Bool.and_self, eT_plain]) (Nat.le_of_ble_eq_true rfl) ?_
  rw [initSt1]
  repeat' first
    | with_reducible refine k_seq ?_
    | with_reducible refine k_skip ?_
    | with_reducible refine k_blkS ?_
    | with_reducible refine k_blkR ?_
    | with_reducible refine k_blkC ?_
    | with_reducible refine k_blkH ?_
    | with_reducible refine k_blkB ?_
    | with_reducible refine k_blkK ?_
    | with_reducible refine k_blkE ?_
    | with_reducible refine k_reg ?_
    | with_reducible refine r_done ?_
    | with_reducible refine s_go (by simp (disch := omega) only [eT, c48r0, c48r1, EV0, EV1, EV2, EV3, EV4, EV5, EV6, EV7, EV8, VALS, plug, ite_same, decide_true, decide_false, eq_self, ↓reduceIte, reduceCtorEq, Nat.reduceAdd, Nat.reduceEqDiff, Nat.reduceLT, Nat.reduceLeDiff, Nat.reduceMul, Nat.reduceSub, Nat.reduceDiv, Int.reduceToNat, Int.reduceAdd, Int.reduceSub, Int.reduceMul, Int.reduceNeg, Int.reduceEq, Int.reduceLT, Int.reduceLE]; with_reducible rfl) ?_
    | ((with_reducible refine chk_r ?_); refine r_callF (by simp only [CA, Nat.reduceEqDiff, ↓reduceIte]; rfl) (by exact rfl) (by simp only [CA, Nat.reduceEqDiff, ↓reduceIte]; rfl) rfl ?_)
    | (with_reducible refine k_condP (by simp only [GA, Nat.reduceEqDiff, ↓reduceIte]; rfl) (by first | (simp only [BO]; rfl) | rfl) (fun ht => ?_) (fun ht => ?_) <;> try (first | exact False.elim ht | exact absurd rfl ht | exact absurd trivial ht | exact Bool.noConfusion ht))
    | (with_reducible refine k_ret ?_; repeat with_reducible (first | refine ret_thru ?_ | refine ret_blk ?_ | refine fin ?_))
    | (with_reducible refine k_exit ?_; repeat with_reducible (first | refine thru ?_ | refine out_blk ?_ | refine pass (by decide) ?_))
    | (refine post1 ?_; simp only [GA, Nat.reduceEqDiff, ↓reduceIte])
    | (refine post2 ?_; simp only [GA, Nat.reduceEqDiff, ↓reduceIte])
    | (refine post3 ?_; simp only [GA, Nat.reduceEqDiff, ↓reduceIte])
    | (refine postc (by simp only [GA, Nat.reduceEqDiff, ↓reduceIte]; rfl) (by simp (disch := omega) only [eT, c48r0, c48r1, EV0, EV1, EV2, EV3, EV4, EV5, EV6, EV7, EV8, VALS, plug, ite_same, decide_true, decide_false, eq_self, ↓reduceIte, reduceCtorEq, Nat.reduceAdd, Nat.reduceEqDiff, Nat.reduceLT, Nat.reduceLeDiff, Nat.reduceMul, Nat.reduceSub, Nat.reduceDiv, Int.reduceToNat, Int.reduceAdd, Int.reduceSub, Int.reduceMul, Int.reduceNeg, Int.reduceEq, Int.reduceLT, Int.reduceLE]; rfl) ?_)
    | refine post0 ?_
  refine ends_eq (b_eq ?_); rw [Bool.eq_iff_iff]
  simp [vt]
  omega

/-- the first k are valid, with different numbers -/
def vk (l : List T) (k : Nat) : Prop := (∀ i, i < k → vt (l.getD i T0) = true) ∧ ∀ i j, i < j → j < k → (l.getD i T0).num ≠ (l.getD j T0).num
def VL (l : List T) : Prop := l.length ≤ 60 ∧ vk l l.length
noncomputable def vl (l : List T) : Bool := @decide (VL l) (Classical.propDecidable _)
theorem vk_mono {l : List T} {k m : Nat} (h : vk l k) (hm : m ≤ k) : vk l m := ⟨fun i hi => h.1 i (by omega), fun i j hi hj => h.2 i j hi (by omega)⟩
theorem vl_t {l : List T} (h : VL l) : vl l = true := by unfold vl; exact @decide_eq_true _ (Classical.propDecidable _) h
theorem vl_f {l : List T} (h : ¬ VL l) : vl l = false := by unfold vl; exact @decide_eq_false _ (Classical.propDecidable _) h
theorem vl_iff {l : List T} : vl l = true ↔ VL l := by unfold vl; exact @decide_eq_true_iff _ (Classical.propDecidable _)
theorem vk_succ {l : List T} {k : Nat} : vk l (k + 1) ↔ vk l k ∧ vt (l.getD k T0) = true ∧ ∀ i, i < k → (l.getD i T0).num ≠ (l.getD k T0).num := by
  constructor
  · intro h; exact ⟨vk_mono h (by omega), h.1 k (by omega), fun i hi => h.2 i k hi (by omega)⟩
  · rintro ⟨h1, h2, h3⟩
    refine ⟨fun i hi => ?_, fun i j hi hj => ?_⟩
    · by_cases e : i = k
      · subst e; exact h2
      · exact h1.1 i (by omega)
    · by_cases e : j = k
      · subst e; exact h3 i hi
      · exact h1.2 i j hi (by omega)

theorem pc27 (l : List T) (hl : l.length ≤ 9223372036854775807) : PC Try.prog 27 [vT l] (.b (vl l)) := by
  refine pc_fn fn27 (by simp only [AV.plains, AV.plain, il_plain, bl_plain, Bool.and_true, Bool.true_and, Bool.and_self, flT_plain]) (by simp only [AV.plains, AV.plain, il_plain, bl_plain, Bool.and_true, Bool.true_and, Bool.and_self, flT_plain]) (Nat.le_of_ble_eq_true rfl) ?_
  rw [initSt1]
  by_cases h6 : (60 : Int) < l.length
  · rw [vl_f (fun h => by have := h.1; omega)]
    repeat' first
      | with_reducible refine k_seq ?_
      | with_reducible refine k_skip ?_
      | with_reducible refine k_blkS ?_
      | with_reducible refine k_blkR ?_
      | with_reducible refine k_blkC ?_
      | with_reducible refine k_blkH ?_
      | with_reducible refine k_blkB ?_
      | with_reducible refine k_blkK ?_
      | with_reducible refine k_blkE ?_
      | with_reducible refine k_reg ?_
      | with_reducible refine r_done ?_
      | with_reducible refine s_go (by simp (disch := omega) only [h6, c27r0, c27r1, c27r2, c27r3, c27r4, c27r5, c27r6, c27r7, c27r8, c27r9, c27r10, c27r12, EV0, EV1, EV2, EV3, EV4, EV5, EV6, EV7, EV8, VALS, plug, ite_same, decide_true, decide_false, eq_self, ↓reduceIte, reduceCtorEq, Nat.reduceAdd, Nat.reduceEqDiff, Nat.reduceLT, Nat.reduceLeDiff, Nat.reduceMul, Nat.reduceSub, Nat.reduceDiv, Int.reduceToNat, Int.reduceAdd, Int.reduceSub, Int.reduceMul, Int.reduceNeg, Int.reduceEq, Int.reduceLT, Int.reduceLE]; with_reducible rfl) ?_
      | ((with_reducible refine chk_r ?_); refine r_callF (by simp only [CA, Nat.reduceEqDiff, ↓reduceIte]; rfl) (by exact rfl) (by simp only [CA, Nat.reduceEqDiff, ↓reduceIte]; rfl) rfl ?_)
      | (with_reducible refine k_condP (by simp only [GA, Nat.reduceEqDiff, ↓reduceIte]; rfl) (by first | (simp only [BO]; rfl) | rfl) (fun ht => ?_) (fun ht => ?_) <;> try (first | exact False.elim ht | exact absurd rfl ht | exact absurd trivial ht | exact Bool.noConfusion ht))
      | (with_reducible refine k_ret ?_; repeat with_reducible (first | refine ret_thru ?_ | refine ret_blk ?_ | refine fin ?_))
      | (with_reducible refine k_exit ?_; repeat with_reducible (first | refine thru ?_ | refine out_blk ?_ | refine pass (by decide) ?_))
      | (refine post1 ?_; simp only [GA, Nat.reduceEqDiff, ↓reduceIte])
      | (refine post2 ?_; simp only [GA, Nat.reduceEqDiff, ↓reduceIte])
      | (refine post3 ?_; simp only [GA, Nat.reduceEqDiff, ↓reduceIte])
      | (refine postc (by simp only [GA, Nat.reduceEqDiff, ↓reduceIte]; rfl) (by simp (disch := omega) only [h6, c27r0, c27r1, c27r2, c27r3, c27r4, c27r5, c27r6, c27r7, c27r8, c27r9, c27r10, c27r12, EV0, EV1, EV2, EV3, EV4, EV5, EV6, EV7, EV8, VALS, plug, ite_same, decide_true, decide_false, eq_self, ↓reduceIte, reduceCtorEq, Nat.reduceAdd, Nat.reduceEqDiff, Nat.reduceLT, Nat.reduceLeDiff, Nat.reduceMul, Nat.reduceSub, Nat.reduceDiv, Int.reduceToNat, Int.reduceAdd, Int.reduceSub, Int.reduceMul, Int.reduceNeg, Int.reduceEq, Int.reduceLT, Int.reduceLE]; rfl) ?_)
      | refine post0 ?_
    all_goals first | exact ends_of | exact ends_eq rfl
  · repeat' first
      | with_reducible refine k_seq ?_
      | with_reducible refine k_skip ?_
      | with_reducible refine k_blkS ?_
      | with_reducible refine k_blkR ?_
      | with_reducible refine k_blkC ?_
      | with_reducible refine k_blkH ?_
      | with_reducible refine k_blkB ?_
      | with_reducible refine k_blkK ?_
      | with_reducible refine k_blkE ?_
      | with_reducible refine k_reg ?_
      | with_reducible refine r_done ?_
      | with_reducible refine s_go (by simp (disch := omega) only [h6, c27r0, c27r1, c27r2, c27r3, c27r4, c27r5, c27r6, c27r7, c27r8, c27r9, c27r10, c27r12, EV0, EV1, EV2, EV3, EV4, EV5, EV6, EV7, EV8, VALS, plug, ite_same, decide_true, decide_false, eq_self, ↓reduceIte, reduceCtorEq, Nat.reduceAdd, Nat.reduceEqDiff, Nat.reduceLT, Nat.reduceLeDiff, Nat.reduceMul, Nat.reduceSub, Nat.reduceDiv, Int.reduceToNat, Int.reduceAdd, Int.reduceSub, Int.reduceMul, Int.reduceNeg, Int.reduceEq, Int.reduceLT, Int.reduceLE]; with_reducible rfl) ?_
      | ((with_reducible refine chk_r ?_); refine r_callF (by simp only [CA, Nat.reduceEqDiff, ↓reduceIte]; rfl) (by exact rfl) (by simp only [CA, Nat.reduceEqDiff, ↓reduceIte]; rfl) rfl ?_)
      | (with_reducible refine k_condP (by simp only [GA, Nat.reduceEqDiff, ↓reduceIte]; rfl) (by first | (simp only [BO]; rfl) | rfl) (fun ht => ?_) (fun ht => ?_) <;> try (first | exact False.elim ht | exact absurd rfl ht | exact absurd trivial ht | exact Bool.noConfusion ht))
      | (with_reducible refine k_ret ?_; repeat with_reducible (first | refine ret_thru ?_ | refine ret_blk ?_ | refine fin ?_))
      | (with_reducible refine k_exit ?_; repeat with_reducible (first | refine thru ?_ | refine out_blk ?_ | refine pass (by decide) ?_))
      | (refine post1 ?_; simp only [GA, Nat.reduceEqDiff, ↓reduceIte])
      | (refine post2 ?_; simp only [GA, Nat.reduceEqDiff, ↓reduceIte])
      | (refine post3 ?_; simp only [GA, Nat.reduceEqDiff, ↓reduceIte])
      | (refine postc (by simp only [GA, Nat.reduceEqDiff, ↓reduceIte]; rfl) (by simp (disch := omega) only [h6, c27r0, c27r1, c27r2, c27r3, c27r4, c27r5, c27r6, c27r7, c27r8, c27r9, c27r10, c27r12, EV0, EV1, EV2, EV3, EV4, EV5, EV6, EV7, EV8, VALS, plug, ite_same, decide_true, decide_false, eq_self, ↓reduceIte, reduceCtorEq, Nat.reduceAdd, Nat.reduceEqDiff, Nat.reduceLT, Nat.reduceLeDiff, Nat.reduceMul, Nat.reduceSub, Nat.reduceDiv, Int.reduceToNat, Int.reduceAdd, Int.reduceSub, Int.reduceMul, Int.reduceNeg, Int.reduceEq, Int.reduceLT, Int.reduceLE]; rfl) ?_)
      | refine post0 ?_
    refine k_blk (k_loopS (X := Nat × List (AV × AV)) [3, 10, 11, 12] l.length (fun k x => [(3, .mp x.1), (10, vT l), (11, .i .i64 l.length), (12, .i .i64 (k : Int))])
      (fun k x h => h.m x.1 = some (.map x.2) ∧ vk l k ∧ MFi x.2 (setOf fun n => ∃ i, i < k ∧ (l.getD i T0).num = n)) (_, _) (by simp only [Am.keep, List.map_cons, List.map_nil, GA, Nat.reduceEqDiff, ↓reduceIte]; try rfl) ⟨by simp (disch := omega) only [c27r0, c27r1, c27r2, c27r3, c27r4, c27r5, c27r6, c27r7, c27r8, c27r9, c27r10, c27r12, EV0, EV1, EV2, EV3, EV4, EV5, EV6, EV7, EV8, VALS, plug, ite_same, decide_true, decide_false, eq_self, ↓reduceIte, reduceCtorEq, Nat.reduceAdd, Nat.reduceEqDiff, Nat.reduceLT, Nat.reduceLeDiff, Nat.reduceMul, Nat.reduceSub, Nat.reduceDiv, Int.reduceToNat, Int.reduceAdd, Int.reduceSub, Int.reduceMul, Int.reduceNeg, Int.reduceEq, Int.reduceLT, Int.reduceLE] <;> rfl, ?_, ?_⟩ ?_)
    · exact ⟨fun i hi => by omega, fun i j _ hj => by omega⟩
    · exact MFi.set_nil fun a ⟨i, hi, _⟩ => by omega
    rintro k ⟨tk, es⟩ h hk ⟨hm, hv, hf⟩ ok pos
    simp only at hm hf ⊢
    have htk := ok.m hm
    have lk := MFi.set_lk hf
    obtain ⟨u1, u2⟩ := MFi.up hf (l.getD k T0).num (.b true)
    have q := pc63 (l.getD k T0)
    have rT := fun hlt => rdT (l := l) (j := k) hlt
    by_cases hlt : k < l.length
    · have rT := rdT hlt
      have hlt' : (k : Int) < l.length := by omega
      have stop : ¬ vk l (k + 1) → vl l = false := fun hn => vl_f fun h => hn (vk_mono h.2 (by omega))
      simp only [eT] at q rT
      cases hvt : vt (l.getD k T0) with
      | false =>
        rw [hvt] at q
        repeat' first
          | with_reducible refine k_seq ?_
          | with_reducible refine k_skip ?_
          | with_reducible refine k_blkS ?_
          | with_reducible refine k_blkR ?_
          | with_reducible refine k_blkC ?_
          | with_reducible refine k_blkH ?_
          | with_reducible refine k_blkB ?_
          | with_reducible refine k_blkK ?_
          | with_reducible refine k_blkE ?_
          | with_reducible refine k_reg ?_
          | with_reducible refine r_done ?_
          | with_reducible refine s_go (by simp (disch := omega) only [hm, rT, hlt', lk, u1, c27r0, c27r1, c27r2, c27r3, c27r4, c27r5, c27r6, c27r7, c27r8, c27r9, c27r10, c27r12, EV0, EV1, EV2, EV3, EV4, EV5, EV6, EV7, EV8, VALS, plug, ite_same, decide_true, decide_false, eq_self, ↓reduceIte, reduceCtorEq, Nat.reduceAdd, Nat.reduceEqDiff, Nat.reduceLT, Nat.reduceLeDiff, Nat.reduceMul, Nat.reduceSub, Nat.reduceDiv, Int.reduceToNat, Int.reduceAdd, Int.reduceSub, Int.reduceMul, Int.reduceNeg, Int.reduceEq, Int.reduceLT, Int.reduceLE]; with_reducible rfl) ?_
          | ((with_reducible refine chk_r ?_); refine r_callF (by simp only [CA, Nat.reduceEqDiff, ↓reduceIte]; rfl) (by exact rfl) (by simp only [CA, Nat.reduceEqDiff, ↓reduceIte]; rfl) rfl ?_)
          | ((with_reducible refine chk_r ?_); refine r_callP (by simp only [CA, Nat.reduceEqDiff, ↓reduceIte]; rfl) (by simp only [CA, Nat.reduceEqDiff, ↓reduceIte]; rfl) (by first | exact q _) rfl ?_)
          | (with_reducible refine k_condP (by simp only [GA, Nat.reduceEqDiff, ↓reduceIte]; rfl) (by first | (simp only [BO]; rfl) | rfl) (fun ht => ?_) (fun ht => ?_) <;> try (first | exact False.elim ht | exact absurd rfl ht | exact absurd trivial ht | exact Bool.noConfusion ht))
          | (with_reducible refine k_ret ?_; repeat with_reducible (first | refine ret_thru ?_ | refine ret_blk ?_ | refine fin ?_))
          | (with_reducible refine k_exit ?_; repeat with_reducible (first | refine thru ?_ | refine out_blk ?_ | refine pass (by decide) ?_))
          | (refine post1 ?_; simp only [GA, Nat.reduceEqDiff, ↓reduceIte])
          | (refine post2 ?_; simp only [GA, Nat.reduceEqDiff, ↓reduceIte])
          | (refine post3 ?_; simp only [GA, Nat.reduceEqDiff, ↓reduceIte])
          | (refine postc (by simp only [GA, Nat.reduceEqDiff, ↓reduceIte]; rfl) (by simp (disch := omega) only [hm, rT, hlt', lk, u1, c27r0, c27r1, c27r2, c27r3, c27r4, c27r5, c27r6, c27r7, c27r8, c27r9, c27r10, c27r12, EV0, EV1, EV2, EV3, EV4, EV5, EV6, EV7, EV8, VALS, plug, ite_same, decide_true, decide_false, eq_self, ↓reduceIte, reduceCtorEq, Nat.reduceAdd, Nat.reduceEqDiff, Nat.reduceLT, Nat.reduceLeDiff, Nat.reduceMul, Nat.reduceSub, Nat.reduceDiv, Int.reduceToNat, Int.reduceAdd, Int.reduceSub, Int.reduceMul, Int.reduceNeg, Int.reduceEq, Int.reduceLT, Int.reduceLE]; rfl) ?_)
          | refine post0 ?_
        all_goals (rw [stop fun h => by rw [(vk_succ.1 h).2.1] at hvt; cases hvt]; exact ends_of)
      | true =>
        rw [hvt] at q
        repeat' first
          | with_reducible refine k_seq ?_
          | with_reducible refine k_skip ?_
          | with_reducible refine k_blkS ?_
          | with_reducible refine k_blkR ?_
          | with_reducible refine k_blkC ?_
          | with_reducible refine k_blkH ?_
          | with_reducible refine k_blkB ?_
          | with_reducible refine k_blkK ?_
          | with_reducible refine k_blkE ?_
          | with_reducible refine k_reg ?_
          | with_reducible refine r_done ?_
          | with_reducible refine s_go (by simp (disch := omega) only [hm, rT, hlt', lk, u1, c27r0, c27r1, c27r2, c27r3, c27r4, c27r5, c27r6, c27r7, c27r8, c27r9, c27r10, c27r12, EV0, EV1, EV2, EV3, EV4, EV5, EV6, EV7, EV8, VALS, plug, ite_same, decide_true, decide_false, eq_self, ↓reduceIte, reduceCtorEq, Nat.reduceAdd, Nat.reduceEqDiff, Nat.reduceLT, Nat.reduceLeDiff, Nat.reduceMul, Nat.reduceSub, Nat.reduceDiv, Int.reduceToNat, Int.reduceAdd, Int.reduceSub, Int.reduceMul, Int.reduceNeg, Int.reduceEq, Int.reduceLT, Int.reduceLE]; with_reducible rfl) ?_
          | ((with_reducible refine chk_r ?_); refine r_callF (by simp only [CA, Nat.reduceEqDiff, ↓reduceIte]; rfl) (by exact rfl) (by simp only [CA, Nat.reduceEqDiff, ↓reduceIte]; rfl) rfl ?_)
          | ((with_reducible refine chk_r ?_); refine r_callP (by simp only [CA, Nat.reduceEqDiff, ↓reduceIte]; rfl) (by simp only [CA, Nat.reduceEqDiff, ↓reduceIte]; rfl) (by first | exact q _) rfl ?_)
          | (with_reducible refine k_condP (by simp only [GA, Nat.reduceEqDiff, ↓reduceIte]; rfl) (by first | (simp only [BO]; rfl) | rfl) (fun ht => ?_) (fun ht => ?_) <;> try (first | exact False.elim ht | exact absurd rfl ht | exact absurd trivial ht | exact Bool.noConfusion ht))
          | (with_reducible refine k_ret ?_; repeat with_reducible (first | refine ret_thru ?_ | refine ret_blk ?_ | refine fin ?_))
          | (with_reducible refine k_exit ?_; repeat with_reducible (first | refine thru ?_ | refine out_blk ?_ | refine pass (by decide) ?_))
          | (refine post1 ?_; simp only [GA, Nat.reduceEqDiff, ↓reduceIte])
          | (refine post2 ?_; simp only [GA, Nat.reduceEqDiff, ↓reduceIte])
          | (refine post3 ?_; simp only [GA, Nat.reduceEqDiff, ↓reduceIte])
          | (refine postc (by simp only [GA, Nat.reduceEqDiff, ↓reduceIte]; rfl) (by simp (disch := omega) only [hm, rT, hlt', lk, u1, c27r0, c27r1, c27r2, c27r3, c27r4, c27r5, c27r6, c27r7, c27r8, c27r9, c27r10, c27r12, EV0, EV1, EV2, EV3, EV4, EV5, EV6, EV7, EV8, VALS, plug, ite_same, decide_true, decide_false, eq_self, ↓reduceIte, reduceCtorEq, Nat.reduceAdd, Nat.reduceEqDiff, Nat.reduceLT, Nat.reduceLeDiff, Nat.reduceMul, Nat.reduceSub, Nat.reduceDiv, Int.reduceToNat, Int.reduceAdd, Int.reduceSub, Int.reduceMul, Int.reduceNeg, Int.reduceEq, Int.reduceLT, Int.reduceLE]; rfl) ?_)
          | refine post0 ?_
        · obtain ⟨i, hi, e⟩ := ht
          rw [stop fun h => (vk_succ.1 h).2.2 i hi e]
          exact ends_of
        · refine ⟨hlt, ⟨tk, _⟩, (by simp only [Am.keep, List.map_cons, List.map_nil, GA, Nat.reduceEqDiff, ↓reduceIte]; try rfl), by simp (disch := omega) only [c27r0, c27r1, c27r2, c27r3, c27r4, c27r5, c27r6, c27r7, c27r8, c27r9, c27r10, c27r12, EV0, EV1, EV2, EV3, EV4, EV5, EV6, EV7, EV8, VALS, plug, ite_same, decide_true, decide_false, eq_self, ↓reduceIte, reduceCtorEq, Nat.reduceAdd, Nat.reduceEqDiff, Nat.reduceLT, Nat.reduceLeDiff, Nat.reduceMul, Nat.reduceSub, Nat.reduceDiv, Int.reduceToNat, Int.reduceAdd, Int.reduceSub, Int.reduceMul, Int.reduceNeg, Int.reduceEq, Int.reduceLT, Int.reduceLE] <;> rfl, vk_succ.2 ⟨hv, hvt, fun i hi e => ht ⟨i, hi, e⟩⟩, MFi.set_up hf _ _ fun b => ⟨fun ⟨i, hi, e⟩ => ?_, fun hb => ?_⟩⟩
          · by_cases hk : i = k
            · subst hk; exact .inl e.symm
            · exact .inr ⟨i, by omega, e⟩
          · rcases hb with rfl | ⟨i, hi, e⟩
            · exact ⟨k, by omega, rfl⟩
            · exact ⟨i, by omega, e⟩
    · have hlt' : ¬ (k : Int) < l.length := by omega
      obtain rfl : k = l.length := by omega
      repeat' first
        | with_reducible refine k_seq ?_
        | with_reducible refine k_skip ?_
        | with_reducible refine k_blkS ?_
        | with_reducible refine k_blkR ?_
        | with_reducible refine k_blkC ?_
        | with_reducible refine k_blkH ?_
        | with_reducible refine k_blkB ?_
        | with_reducible refine k_blkK ?_
        | with_reducible refine k_blkE ?_
        | with_reducible refine k_reg ?_
        | with_reducible refine r_done ?_
        | with_reducible refine s_go (by simp (disch := omega) only [hlt', c27r0, c27r1, c27r2, c27r3, c27r4, c27r5, c27r6, c27r7, c27r8, c27r9, c27r10, c27r12, EV0, EV1, EV2, EV3, EV4, EV5, EV6, EV7, EV8, VALS, plug, ite_same, decide_true, decide_false, eq_self, ↓reduceIte, reduceCtorEq, Nat.reduceAdd, Nat.reduceEqDiff, Nat.reduceLT, Nat.reduceLeDiff, Nat.reduceMul, Nat.reduceSub, Nat.reduceDiv, Int.reduceToNat, Int.reduceAdd, Int.reduceSub, Int.reduceMul, Int.reduceNeg, Int.reduceEq, Int.reduceLT, Int.reduceLE]; with_reducible rfl) ?_
        | ((with_reducible refine chk_r ?_); refine r_callF (by simp only [CA, Nat.reduceEqDiff, ↓reduceIte]; rfl) (by exact rfl) (by simp only [CA, Nat.reduceEqDiff, ↓reduceIte]; rfl) rfl ?_)
        | (with_reducible refine k_condP (by simp only [GA, Nat.reduceEqDiff, ↓reduceIte]; rfl) (by first | (simp only [BO]; rfl) | rfl) (fun ht => ?_) (fun ht => ?_) <;> try (first | exact False.elim ht | exact absurd rfl ht | exact absurd trivial ht | exact Bool.noConfusion ht))
        | (with_reducible refine k_ret ?_; repeat with_reducible (first | refine ret_thru ?_ | refine ret_blk ?_ | refine fin ?_))
        | (with_reducible refine k_exit ?_; repeat with_reducible (first | refine thru ?_ | refine out_blk ?_ | refine pass (by decide) ?_))
        | (refine post1 ?_; simp only [GA, Nat.reduceEqDiff, ↓reduceIte])
        | (refine post2 ?_; simp only [GA, Nat.reduceEqDiff, ↓reduceIte])
        | (refine post3 ?_; simp only [GA, Nat.reduceEqDiff, ↓reduceIte])
        | (refine postc (by simp only [GA, Nat.reduceEqDiff, ↓reduceIte]; rfl) (by simp (disch := omega) only [hlt', c27r0, c27r1, c27r2, c27r3, c27r4, c27r5, c27r6, c27r7, c27r8, c27r9, c27r10, c27r12, EV0, EV1, EV2, EV3, EV4, EV5, EV6, EV7, EV8, VALS, plug, ite_same, decide_true, decide_false, eq_self, ↓reduceIte, reduceCtorEq, Nat.reduceAdd, Nat.reduceEqDiff, Nat.reduceLT, Nat.reduceLeDiff, Nat.reduceMul, Nat.reduceSub, Nat.reduceDiv, Int.reduceToNat, Int.reduceAdd, Int.reduceSub, Int.reduceMul, Int.reduceNeg, Int.reduceEq, Int.reduceLT, Int.reduceLE]; rfl) ?_)
        | refine post0 ?_
      rw [vl_t ⟨by omega, hv⟩]
      exact ends_of

theorem pc14 (l : List T) (hl : l.length ≤ 9223372036854775807) : PC Try.prog 14 [vT l] (.b (vl l)) := by
  refine pc_fn fn14 (by simp only [AV.plains, AV.plain, il_plain, bl_plain, Bool.and_true, Bool.true_and, Bool.and_self, flT_plain]) (by simp only [AV.plains, AV.plain, il_plain, bl_plain, Bool.and_true, Bool.true_and, Bool.and_self, flT_plain]) (Nat.le_of_ble_eq_true rfl) ?_
  rw [initSt1]
  by_cases h6 : (60 : Int) < l.length
  · rw [vl_f (fun h => by have := h.1; omega)]
    repeat' first
      | with_reducible refine k_seq ?_
      | with_reducible refine k_skip ?_
      | with_reducible refine k_blkS ?_
      | with_reducible refine k_blkR ?_
      | with_reducible refine k_blkC ?_
      | with_reducible refine k_blkH ?_
      | with_reducible refine k_blkB ?_
      | with_reducible refine k_blkK ?_
      | with_reducible refine k_blkE ?_
      | with_reducible refine k_reg ?_
      | with_reducible refine k_head (by with_unfolding_all rfl) ?_
      | with_reducible refine k_headS ?_
      | (with_reducible refine SepK.mk ?_ ?_; (refine sepQ_P ?_; simp [sepQ, sepG, AOp.late, AOp.free, AOp.xs, AOp.isAl, tokNe, AV.tok, stS_get, strip, AX.val, c14r0, c14r1, c14r2, c14r3, c14r4, c14r5, c14r6, c14r7, c14r8, c14r9, c14r10, c14r11, c14r13, c14r15, GA]; try omega))
      | with_reducible refine r_done ?_
      | with_reducible refine hr_done ?_
      | with_reducible refine s_go (by simp (disch := omega) only [h6, c14r0, c14r1, c14r2, c14r3, c14r4, c14r5, c14r6, c14r7, c14r8, c14r9, c14r10, c14r11, c14r13, c14r15, EV0, EV1, EV2, EV3, EV4, EV5, EV6, EV7, EV8, VALS, plug, ite_same, decide_true, decide_false, eq_self, ↓reduceIte, reduceCtorEq, Nat.reduceAdd, Nat.reduceEqDiff, Nat.reduceLT, Nat.reduceLeDiff, Nat.reduceMul, Nat.reduceSub, Nat.reduceDiv, Int.reduceToNat, Int.reduceAdd, Int.reduceSub, Int.reduceMul, Int.reduceNeg, Int.reduceEq, Int.reduceLT, Int.reduceLE]; with_reducible rfl) ?_
      | with_reducible refine h_go (by with_unfolding_all rfl) (by simp (disch := omega) only [h6, c14r0, c14r1, c14r2, c14r3, c14r4, c14r5, c14r6, c14r7, c14r8, c14r9, c14r10, c14r11, c14r13, c14r15, EV0, EV1, EV2, EV3, EV4, EV5, EV6, EV7, EV8, VALS, plug, ite_same, decide_true, decide_false, eq_self, ↓reduceIte, reduceCtorEq, Nat.reduceAdd, Nat.reduceEqDiff, Nat.reduceLT, Nat.reduceLeDiff, Nat.reduceMul, Nat.reduceSub, Nat.reduceDiv, Int.reduceToNat, Int.reduceAdd, Int.reduceSub, Int.reduceMul, Int.reduceNeg, Int.reduceEq, Int.reduceLT, Int.reduceLE]; with_reducible rfl) ?_
      | ((with_reducible refine chk_r ?_); refine r_callF (by simp only [CA, Nat.reduceEqDiff, ↓reduceIte]; rfl) (by exact rfl) (by simp only [CA, Nat.reduceEqDiff, ↓reduceIte]; rfl) rfl ?_)
      | ((with_reducible refine chk_h ?_); refine hr_callF (by simp only [CA, Nat.reduceEqDiff, ↓reduceIte]; rfl) (by exact rfl) (by simp only [CA, Nat.reduceEqDiff, ↓reduceIte]; rfl) rfl ?_)
      | ((with_reducible refine chk_h ?_); refine hr_app (by simp (disch := omega) only [h6, c14r0, c14r1, c14r2, c14r3, c14r4, c14r5, c14r6, c14r7, c14r8, c14r9, c14r10, c14r11, c14r13, c14r15, EV0, EV1, EV2, EV3, EV4, EV5, EV6, EV7, EV8, VALS, plug, ite_same, decide_true, decide_false, eq_self, ↓reduceIte, reduceCtorEq, Nat.reduceAdd, Nat.reduceEqDiff, Nat.reduceLT, Nat.reduceLeDiff, Nat.reduceMul, Nat.reduceSub, Nat.reduceDiv, Int.reduceToNat, Int.reduceAdd, Int.reduceSub, Int.reduceMul, Int.reduceNeg, Int.reduceEq, Int.reduceLT, Int.reduceLE]; with_reducible rfl) rfl ?_)
      | (with_reducible refine k_condP (by simp only [GA, Nat.reduceEqDiff, ↓reduceIte]; rfl) (by first | (simp only [BO]; rfl) | rfl) (fun ht => ?_) (fun ht => ?_) <;> try (first | exact False.elim ht | exact absurd rfl ht | exact absurd trivial ht | exact Bool.noConfusion ht))
      | (with_reducible refine k_ret ?_; repeat with_reducible (first | refine ret_thru ?_ | refine ret_blk ?_ | refine fin ?_))
      | (with_reducible refine k_exit ?_; repeat with_reducible (first | refine thru ?_ | refine out_blk ?_ | refine pass (by decide) ?_))
      | (refine post1 ?_; simp only [GA, Nat.reduceEqDiff, ↓reduceIte])
      | (refine post2 ?_; simp only [GA, Nat.reduceEqDiff, ↓reduceIte])
      | (refine post3 ?_; simp only [GA, Nat.reduceEqDiff, ↓reduceIte])
      | (refine postc (by simp only [GA, Nat.reduceEqDiff, ↓reduceIte]; rfl) (by simp (disch := omega) only [h6, c14r0, c14r1, c14r2, c14r3, c14r4, c14r5, c14r6, c14r7, c14r8, c14r9, c14r10, c14r11, c14r13, c14r15, EV0, EV1, EV2, EV3, EV4, EV5, EV6, EV7, EV8, VALS, plug, ite_same, decide_true, decide_false, eq_self, ↓reduceIte, reduceCtorEq, Nat.reduceAdd, Nat.reduceEqDiff, Nat.reduceLT, Nat.reduceLeDiff, Nat.reduceMul, Nat.reduceSub, Nat.reduceDiv, Int.reduceToNat, Int.reduceAdd, Int.reduceSub, Int.reduceMul, Int.reduceNeg, Int.reduceEq, Int.reduceLT, Int.reduceLE]; rfl) ?_)
      | refine post0 ?_
    all_goals first | exact ends_of | exact ends_eq rfl
  · repeat' first
      | with_reducible refine k_seq ?_
      | with_reducible refine k_skip ?_
      | with_reducible refine k_blkS ?_
      | with_reducible refine k_blkR ?_
      | with_reducible refine k_blkC ?_
      | with_reducible refine k_blkH ?_
      | with_reducible refine k_blkB ?_
      | with_reducible refine k_blkK ?_
      | with_reducible refine k_blkE ?_
      | with_reducible refine k_reg ?_
      | with_reducible refine k_head (by with_unfolding_all rfl) ?_
      | with_reducible refine k_headS ?_
      | (with_reducible refine SepK.mk ?_ ?_; (refine sepQ_P ?_; simp [sepQ, sepG, AOp.late, AOp.free, AOp.xs, AOp.isAl, tokNe, AV.tok, stS_get, strip, AX.val, c14r0, c14r1, c14r2, c14r3, c14r4, c14r5, c14r6, c14r7, c14r8, c14r9, c14r10, c14r11, c14r13, c14r15, GA]; try omega))
      | with_reducible refine r_done ?_
      | with_reducible refine hr_done ?_
      | with_reducible refine s_go (by simp (disch := omega) only [h6, c14r0, c14r1, c14r2, c14r3, c14r4, c14r5, c14r6, c14r7, c14r8, c14r9, c14r10, c14r11, c14r13, c14r15, EV0, EV1, EV2, EV3, EV4, EV5, EV6, EV7, EV8, VALS, plug, ite_same, decide_true, decide_false, eq_self, ↓reduceIte, reduceCtorEq, Nat.reduceAdd, Nat.reduceEqDiff, Nat.reduceLT, Nat.reduceLeDiff, Nat.reduceMul, Nat.reduceSub, Nat.reduceDiv, Int.reduceToNat, Int.reduceAdd, Int.reduceSub, Int.reduceMul, Int.reduceNeg, Int.reduceEq, Int.reduceLT, Int.reduceLE]; with_reducible rfl) ?_
      | with_reducible refine h_go (by with_unfolding_all rfl) (by simp (disch := omega) only [h6, c14r0, c14r1, c14r2, c14r3, c14r4, c14r5, c14r6, c14r7, c14r8, c14r9, c14r10, c14r11, c14r13, c14r15, EV0, EV1, EV2, EV3, EV4, EV5, EV6, EV7, EV8, VALS, plug, ite_same, decide_true, decide_false, eq_self, ↓reduceIte, reduceCtorEq, Nat.reduceAdd, Nat.reduceEqDiff, Nat.reduceLT, Nat.reduceLeDiff, Nat.reduceMul, Nat.reduceSub, Nat.reduceDiv, Int.reduceToNat, Int.reduceAdd, Int.reduceSub, Int.reduceMul, Int.reduceNeg, Int.reduceEq, Int.reduceLT, Int.reduceLE]; with_reducible rfl) ?_
      | ((with_reducible refine chk_r ?_); refine r_callF (by simp only [CA, Nat.reduceEqDiff, ↓reduceIte]; rfl) (by exact rfl) (by simp only [CA, Nat.reduceEqDiff, ↓reduceIte]; rfl) rfl ?_)
      | ((with_reducible refine chk_h ?_); refine hr_callF (by simp only [CA, Nat.reduceEqDiff, ↓reduceIte]; rfl) (by exact rfl) (by simp only [CA, Nat.reduceEqDiff, ↓reduceIte]; rfl) rfl ?_)
      | ((with_reducible refine chk_h ?_); refine hr_app (by simp (disch := omega) only [h6, c14r0, c14r1, c14r2, c14r3, c14r4, c14r5, c14r6, c14r7, c14r8, c14r9, c14r10, c14r11, c14r13, c14r15, EV0, EV1, EV2, EV3, EV4, EV5, EV6, EV7, EV8, VALS, plug, ite_same, decide_true, decide_false, eq_self, ↓reduceIte, reduceCtorEq, Nat.reduceAdd, Nat.reduceEqDiff, Nat.reduceLT, Nat.reduceLeDiff, Nat.reduceMul, Nat.reduceSub, Nat.reduceDiv, Int.reduceToNat, Int.reduceAdd, Int.reduceSub, Int.reduceMul, Int.reduceNeg, Int.reduceEq, Int.reduceLT, Int.reduceLE]; with_reducible rfl) rfl ?_)
      | (with_reducible refine k_condP (by simp only [GA, Nat.reduceEqDiff, ↓reduceIte]; rfl) (by first | (simp only [BO]; rfl) | rfl) (fun ht => ?_) (fun ht => ?_) <;> try (first | exact False.elim ht | exact absurd rfl ht | exact absurd trivial ht | exact Bool.noConfusion ht))
      | (with_reducible refine k_ret ?_; repeat with_reducible (first | refine ret_thru ?_ | refine ret_blk ?_ | refine fin ?_))
      | (with_reducible refine k_exit ?_; repeat with_reducible (first | refine thru ?_ | refine out_blk ?_ | refine pass (by decide) ?_))
      | (refine post1 ?_; simp only [GA, Nat.reduceEqDiff, ↓reduceIte])
      | (refine post2 ?_; simp only [GA, Nat.reduceEqDiff, ↓reduceIte])
      | (refine post3 ?_; simp only [GA, Nat.reduceEqDiff, ↓reduceIte])
      | (refine postc (by simp only [GA, Nat.reduceEqDiff, ↓reduceIte]; rfl) (by simp (disch := omega) only [h6, c14r0, c14r1, c14r2, c14r3, c14r4, c14r5, c14r6, c14r7, c14r8, c14r9, c14r10, c14r11, c14r13, c14r15, EV0, EV1, EV2, EV3, EV4, EV5, EV6, EV7, EV8, VALS, plug, ite_same, decide_true, decide_false, eq_self, ↓reduceIte, reduceCtorEq, Nat.reduceAdd, Nat.reduceEqDiff, Nat.reduceLT, Nat.reduceLeDiff, Nat.reduceMul, Nat.reduceSub, Nat.reduceDiv, Int.reduceToNat, Int.reduceAdd, Int.reduceSub, Int.reduceMul, Int.reduceNeg, Int.reduceEq, Int.reduceLT, Int.reduceLE]; rfl) ?_)
      | refine post0 ?_
    refine k_blk (k_loopS (X := Unit) [0, 3] l.length (fun k x => [(0, vT l), (3, .i .i64 (k : Int))]) (fun k x h => vk l k) () (by simp only [Am.keep, List.map_cons, List.map_nil, GA, Nat.reduceEqDiff, ↓reduceIte]; try rfl) ⟨fun i hi => by omega, fun i j _ hj => by omega⟩ ?_)
    rintro k ⟨⟩ h hk hv ok pos
    have q := pc48 (l.getD k T0)
    by_cases hlt : k < l.length
    · have rT := rdT hlt
      have g0 := getT0 hlt
      have hlt' : (k : Int) < l.length := by omega
      have stop : ¬ vk l (k + 1) → vl l = false := fun hn => vl_f fun h => hn (vk_mono h.2 (by omega))
      simp only [eT] at q rT
      cases hvt : vt (l.getD k T0) with
      | false =>
        rw [hvt] at q
        repeat' first
          | with_reducible refine k_seq ?_
          | with_reducible refine k_skip ?_
          | with_reducible refine k_blkS ?_
          | with_reducible refine k_blkR ?_
          | with_reducible refine k_blkC ?_
          | with_reducible refine k_blkH ?_
          | with_reducible refine k_blkB ?_
          | with_reducible refine k_blkK ?_
          | with_reducible refine k_blkE ?_
          | with_reducible refine k_reg ?_
          | with_reducible refine k_head (by with_unfolding_all rfl) ?_
          | with_reducible refine k_headS ?_
          | (with_reducible refine SepK.mk ?_ ?_; (refine sepQ_P ?_; simp [sepQ, sepG, AOp.late, AOp.free, AOp.xs, AOp.isAl, tokNe, AV.tok, stS_get, strip, AX.val, c14r0, c14r1, c14r2, c14r3, c14r4, c14r5, c14r6, c14r7, c14r8, c14r9, c14r10, c14r11, c14r13, c14r15, GA]; try omega))
          | with_reducible refine r_done ?_
          | with_reducible refine hr_done ?_
          | with_reducible refine s_go (by simp (disch := omega) only [rT, hlt', c14r0, c14r1, c14r2, c14r3, c14r4, c14r5, c14r6, c14r7, c14r8, c14r9, c14r10, c14r11, c14r13, c14r15, EV0, EV1, EV2, EV3, EV4, EV5, EV6, EV7, EV8, VALS, plug, ite_same, decide_true, decide_false, eq_self, ↓reduceIte, reduceCtorEq, Nat.reduceAdd, Nat.reduceEqDiff, Nat.reduceLT, Nat.reduceLeDiff, Nat.reduceMul, Nat.reduceSub, Nat.reduceDiv, Int.reduceToNat, Int.reduceAdd, Int.reduceSub, Int.reduceMul, Int.reduceNeg, Int.reduceEq, Int.reduceLT, Int.reduceLE]; with_reducible rfl) ?_
          | with_reducible refine h_go (by with_unfolding_all rfl) (by simp (disch := omega) only [rT, hlt', c14r0, c14r1, c14r2, c14r3, c14r4, c14r5, c14r6, c14r7, c14r8, c14r9, c14r10, c14r11, c14r13, c14r15, EV0, EV1, EV2, EV3, EV4, EV5, EV6, EV7, EV8, VALS, plug, ite_same, decide_true, decide_false, eq_self, ↓reduceIte, reduceCtorEq, Nat.reduceAdd, Nat.reduceEqDiff, Nat.reduceLT, Nat.reduceLeDiff, Nat.reduceMul, Nat.reduceSub, Nat.reduceDiv, Int.reduceToNat, Int.reduceAdd, Int.reduceSub, Int.reduceMul, Int.reduceNeg, Int.reduceEq, Int.reduceLT, Int.reduceLE]; with_reducible rfl) ?_
          | ((with_reducible refine chk_r ?_); refine r_callF (by simp only [CA, Nat.reduceEqDiff, ↓reduceIte]; rfl) (by exact rfl) (by simp only [CA, Nat.reduceEqDiff, ↓reduceIte]; rfl) rfl ?_)
          | ((with_reducible refine chk_h ?_); refine hr_callF (by simp only [CA, Nat.reduceEqDiff, ↓reduceIte]; rfl) (by exact rfl) (by simp only [CA, Nat.reduceEqDiff, ↓reduceIte]; rfl) rfl ?_)
          | ((with_reducible refine chk_r ?_); refine r_callP (by simp only [CA, Nat.reduceEqDiff, ↓reduceIte]; rfl) (by simp only [CA, Nat.reduceEqDiff, ↓reduceIte]; rfl) (by first | exact q _) rfl ?_)
          | ((with_reducible refine chk_h ?_); refine hr_callP (by simp only [CA, Nat.reduceEqDiff, ↓reduceIte]; rfl) (by simp only [CA, Nat.reduceEqDiff, ↓reduceIte]; rfl) (by first | exact q _) rfl ?_)
          | ((with_reducible refine chk_h ?_); refine hr_callP1 (by simp only [CA, Nat.reduceEqDiff, ↓reduceIte]; rfl) (by simp only [CA, Nat.reduceEqDiff, ↓reduceIte]; rfl) (by simp (disch := omega) only [CA, Nat.reduceEqDiff, ↓reduceIte, firstTok_nil, firstTok_sl, firstTok_sl0, firstTok_i, firstTok_b, firstTok_ag, firstTok_p, firstTok_s]; rfl) (by first | exact q _) rfl ?_)
          | ((with_reducible refine chk_h ?_); refine hr_app (by simp (disch := omega) only [rT, hlt', c14r0, c14r1, c14r2, c14r3, c14r4, c14r5, c14r6, c14r7, c14r8, c14r9, c14r10, c14r11, c14r13, c14r15, EV0, EV1, EV2, EV3, EV4, EV5, EV6, EV7, EV8, VALS, plug, ite_same, decide_true, decide_false, eq_self, ↓reduceIte, reduceCtorEq, Nat.reduceAdd, Nat.reduceEqDiff, Nat.reduceLT, Nat.reduceLeDiff, Nat.reduceMul, Nat.reduceSub, Nat.reduceDiv, Int.reduceToNat, Int.reduceAdd, Int.reduceSub, Int.reduceMul, Int.reduceNeg, Int.reduceEq, Int.reduceLT, Int.reduceLE]; with_reducible rfl) rfl ?_)
          | (with_reducible refine k_condP (by simp only [GA, Nat.reduceEqDiff, ↓reduceIte]; rfl) (by first | (simp only [BO]; rfl) | rfl) (fun ht => ?_) (fun ht => ?_) <;> try (first | exact False.elim ht | exact absurd rfl ht | exact absurd trivial ht | exact Bool.noConfusion ht))
          | (with_reducible refine k_ret ?_; repeat with_reducible (first | refine ret_thru ?_ | refine ret_blk ?_ | refine fin ?_))
          | (with_reducible refine k_exit ?_; repeat with_reducible (first | refine thru ?_ | refine out_blk ?_ | refine pass (by decide) ?_))
          | (refine post1 ?_; simp only [GA, Nat.reduceEqDiff, ↓reduceIte])
          | (refine post2 ?_; simp only [GA, Nat.reduceEqDiff, ↓reduceIte])
          | (refine post3 ?_; simp only [GA, Nat.reduceEqDiff, ↓reduceIte])
          | (refine postc (by simp only [GA, Nat.reduceEqDiff, ↓reduceIte]; rfl) (by simp (disch := omega) only [rT, hlt', c14r0, c14r1, c14r2, c14r3, c14r4, c14r5, c14r6, c14r7, c14r8, c14r9, c14r10, c14r11, c14r13, c14r15, EV0, EV1, EV2, EV3, EV4, EV5, EV6, EV7, EV8, VALS, plug, ite_same, decide_true, decide_false, eq_self, ↓reduceIte, reduceCtorEq, Nat.reduceAdd, Nat.reduceEqDiff, Nat.reduceLT, Nat.reduceLeDiff, Nat.reduceMul, Nat.reduceSub, Nat.reduceDiv, Int.reduceToNat, Int.reduceAdd, Int.reduceSub, Int.reduceMul, Int.reduceNeg, Int.reduceEq, Int.reduceLT, Int.reduceLE]; rfl) ?_)
          | refine post0 ?_
        all_goals (rw [stop fun h => by rw [(vk_succ.1 h).2.1] at hvt; cases hvt]; exact ends_of)
      | true =>
        rw [hvt] at q
        repeat' first
          | with_reducible refine k_seq ?_
          | with_reducible refine k_skip ?_
          | with_reducible refine k_blkS ?_
          | with_reducible refine k_blkR ?_
          | with_reducible refine k_blkC ?_
          | with_reducible refine k_blkH ?_
          | with_reducible refine k_blkB ?_
          | with_reducible refine k_blkK ?_
          | with_reducible refine k_blkE ?_
          | with_reducible refine k_reg ?_
          | with_reducible refine k_head (by with_unfolding_all rfl) ?_
          | with_reducible refine k_headS ?_
          | (with_reducible refine SepK.mk ?_ ?_; (refine sepQ_P ?_; simp [sepQ, sepG, AOp.late, AOp.free, AOp.xs, AOp.isAl, tokNe, AV.tok, stS_get, strip, AX.val, c14r0, c14r1, c14r2, c14r3, c14r4, c14r5, c14r6, c14r7, c14r8, c14r9, c14r10, c14r11, c14r13, c14r15, GA]; try omega))
          | with_reducible refine r_done ?_
          | with_reducible refine hr_done ?_
          | with_reducible refine s_go (by simp (disch := omega) only [rT, hlt', c14r0, c14r1, c14r2, c14r3, c14r4, c14r5, c14r6, c14r7, c14r8, c14r9, c14r10, c14r11, c14r13, c14r15, EV0, EV1, EV2, EV3, EV4, EV5, EV6, EV7, EV8, VALS, plug, ite_same, decide_true, decide_false, eq_self, ↓reduceIte, reduceCtorEq, Nat.reduceAdd, Nat.reduceEqDiff, Nat.reduceLT, Nat.reduceLeDiff, Nat.reduceMul, Nat.reduceSub, Nat.reduceDiv, Int.reduceToNat, Int.reduceAdd, Int.reduceSub, Int.reduceMul, Int.reduceNeg, Int.reduceEq, Int.reduceLT, Int.reduceLE]; with_reducible rfl) ?_
          | with_reducible refine h_go (by with_unfolding_all rfl) (by simp (disch := omega) only [rT, hlt', c14r0, c14r1, c14r2, c14r3, c14r4, c14r5, c14r6, c14r7, c14r8, c14r9, c14r10, c14r11, c14r13, c14r15, EV0, EV1, EV2, EV3, EV4, EV5, EV6, EV7, EV8, VALS, plug, ite_same, decide_true, decide_false, eq_self, ↓reduceIte, reduceCtorEq, Nat.reduceAdd, Nat.reduceEqDiff, Nat.reduceLT, Nat.reduceLeDiff, Nat.reduceMul, Nat.reduceSub, Nat.reduceDiv, Int.reduceToNat, Int.reduceAdd, Int.reduceSub, Int.reduceMul, Int.reduceNeg, Int.reduceEq, Int.reduceLT, Int.reduceLE]; with_reducible rfl) ?_
          | ((with_reducible refine chk_r ?_); refine r_callF (by simp only [CA, Nat.reduceEqDiff, ↓reduceIte]; rfl) (by exact rfl) (by simp only [CA, Nat.reduceEqDiff, ↓reduceIte]; rfl) rfl ?_)
          | ((with_reducible refine chk_h ?_); refine hr_callF (by simp only [CA, Nat.reduceEqDiff, ↓reduceIte]; rfl) (by exact rfl) (by simp only [CA, Nat.reduceEqDiff, ↓reduceIte]; rfl) rfl ?_)
          | ((with_reducible refine chk_r ?_); refine r_callP (by simp only [CA, Nat.reduceEqDiff, ↓reduceIte]; rfl) (by simp only [CA, Nat.reduceEqDiff, ↓reduceIte]; rfl) (by first | exact q _) rfl ?_)
          | ((with_reducible refine chk_h ?_); refine hr_callP (by simp only [CA, Nat.reduceEqDiff, ↓reduceIte]; rfl) (by simp only [CA, Nat.reduceEqDiff, ↓reduceIte]; rfl) (by first | exact q _) rfl ?_)
          | ((with_reducible refine chk_h ?_); refine hr_callP1 (by simp only [CA, Nat.reduceEqDiff, ↓reduceIte]; rfl) (by simp only [CA, Nat.reduceEqDiff, ↓reduceIte]; rfl) (by simp (disch := omega) only [CA, Nat.reduceEqDiff, ↓reduceIte, firstTok_nil, firstTok_sl, firstTok_sl0, firstTok_i, firstTok_b, firstTok_ag, firstTok_p, firstTok_s]; rfl) (by first | exact q _) rfl ?_)
          | ((with_reducible refine chk_h ?_); refine hr_app (by simp (disch := omega) only [rT, hlt', c14r0, c14r1, c14r2, c14r3, c14r4, c14r5, c14r6, c14r7, c14r8, c14r9, c14r10, c14r11, c14r13, c14r15, EV0, EV1, EV2, EV3, EV4, EV5, EV6, EV7, EV8, VALS, plug, ite_same, decide_true, decide_false, eq_self, ↓reduceIte, reduceCtorEq, Nat.reduceAdd, Nat.reduceEqDiff, Nat.reduceLT, Nat.reduceLeDiff, Nat.reduceMul, Nat.reduceSub, Nat.reduceDiv, Int.reduceToNat, Int.reduceAdd, Int.reduceSub, Int.reduceMul, Int.reduceNeg, Int.reduceEq, Int.reduceLT, Int.reduceLE]; with_reducible rfl) rfl ?_)
          | (with_reducible refine k_condP (by simp only [GA, Nat.reduceEqDiff, ↓reduceIte]; rfl) (by first | (simp only [BO]; rfl) | rfl) (fun ht => ?_) (fun ht => ?_) <;> try (first | exact False.elim ht | exact absurd rfl ht | exact absurd trivial ht | exact Bool.noConfusion ht))
          | (with_reducible refine k_ret ?_; repeat with_reducible (first | refine ret_thru ?_ | refine ret_blk ?_ | refine fin ?_))
          | (with_reducible refine k_exit ?_; repeat with_reducible (first | refine thru ?_ | refine out_blk ?_ | refine pass (by decide) ?_))
          | (refine post1 ?_; simp only [GA, Nat.reduceEqDiff, ↓reduceIte])
          | (refine post2 ?_; simp only [GA, Nat.reduceEqDiff, ↓reduceIte])
          | (refine post3 ?_; simp only [GA, Nat.reduceEqDiff, ↓reduceIte])
          | (refine postc (by simp only [GA, Nat.reduceEqDiff, ↓reduceIte]; rfl) (by simp (disch := omega) only [rT, hlt', c14r0, c14r1, c14r2, c14r3, c14r4, c14r5, c14r6, c14r7, c14r8, c14r9, c14r10, c14r11, c14r13, c14r15, EV0, EV1, EV2, EV3, EV4, EV5, EV6, EV7, EV8, VALS, plug, ite_same, decide_true, decide_false, eq_self, ↓reduceIte, reduceCtorEq, Nat.reduceAdd, Nat.reduceEqDiff, Nat.reduceLT, Nat.reduceLeDiff, Nat.reduceMul, Nat.reduceSub, Nat.reduceDiv, Int.reduceToNat, Int.reduceAdd, Int.reduceSub, Int.reduceMul, Int.reduceNeg, Int.reduceEq, Int.reduceLT, Int.reduceLE]; rfl) ?_)
          | refine post0 ?_
        refine k_blk (k_loopS (X := Unit) [0, 3, 4] k (fun j x => [(0, vT l), (3, .i .i64 (k : Int)), (4, .i .i64 (j : Int))]) (fun j x h => ∀ i, i < j → (l.getD i T0).num ≠ (l.getD k T0).num) () (by simp only [Am.keep, List.map_cons, List.map_nil, GA, Nat.reduceEqDiff, ↓reduceIte]; try rfl) (fun i hi => by omega) ?_)
        rintro j ⟨⟩ h hj hd ok pos
        have jT := fun hj : j < k => getT0 (l := l) (j := j) (by omega)
        by_cases hjk : j < k
        · have hjk' : (j : Int) < k := by omega
          have jT := jT hjk
          repeat' first
            | with_reducible refine k_seq ?_
            | with_reducible refine k_skip ?_
            | with_reducible refine k_blkS ?_
            | with_reducible refine k_blkR ?_
            | with_reducible refine k_blkC ?_
            | with_reducible refine k_blkH ?_
            | with_reducible refine k_blkB ?_
            | with_reducible refine k_blkK ?_
            | with_reducible refine k_blkE ?_
            | with_reducible refine k_reg ?_
            | with_reducible refine k_head (by with_unfolding_all rfl) ?_
            | with_reducible refine k_headS ?_
            | (with_reducible refine SepK.mk ?_ ?_; (refine sepQ_P ?_; simp [sepQ, sepG, AOp.late, AOp.free, AOp.xs, AOp.isAl, tokNe, AV.tok, stS_get, strip, AX.val, c14r0, c14r1, c14r2, c14r3, c14r4, c14r5, c14r6, c14r7, c14r8, c14r9, c14r10, c14r11, c14r13, c14r15, GA]; try omega))
            | with_reducible refine r_done ?_
            | with_reducible refine hr_done ?_
            | with_reducible refine s_go (by simp (disch := omega) only [hjk', jT, g0, c14r0, c14r1, c14r2, c14r3, c14r4, c14r5, c14r6, c14r7, c14r8, c14r9, c14r10, c14r11, c14r13, c14r15, EV0, EV1, EV2, EV3, EV4, EV5, EV6, EV7, EV8, VALS, plug, ite_same, decide_true, decide_false, eq_self, ↓reduceIte, reduceCtorEq, Nat.reduceAdd, Nat.reduceEqDiff, Nat.reduceLT, Nat.reduceLeDiff, Nat.reduceMul, Nat.reduceSub, Nat.reduceDiv, Int.reduceToNat, Int.reduceAdd, Int.reduceSub, Int.reduceMul, Int.reduceNeg, Int.reduceEq, Int.reduceLT, Int.reduceLE]; with_reducible rfl) ?_
            | with_reducible refine h_go (by with_unfolding_all rfl) (by simp (disch := omega) only [hjk', jT, g0, c14r0, c14r1, c14r2, c14r3, c14r4, c14r5, c14r6, c14r7, c14r8, c14r9, c14r10, c14r11, c14r13, c14r15, EV0, EV1, EV2, EV3, EV4, EV5, EV6, EV7, EV8, VALS, plug, ite_same, decide_true, decide_false, eq_self, ↓reduceIte, reduceCtorEq, Nat.reduceAdd, Nat.reduceEqDiff, Nat.reduceLT, Nat.reduceLeDiff, Nat.reduceMul, Nat.reduceSub, Nat.reduceDiv, Int.reduceToNat, Int.reduceAdd, Int.reduceSub, Int.reduceMul, Int.reduceNeg, Int.reduceEq, Int.reduceLT, Int.reduceLE]; with_reducible rfl) ?_
            | ((with_reducible refine chk_r ?_); refine r_callF (by simp only [CA, Nat.reduceEqDiff, ↓reduceIte]; rfl) (by exact rfl) (by simp only [CA, Nat.reduceEqDiff, ↓reduceIte]; rfl) rfl ?_)
            | ((with_reducible refine chk_h ?_); refine hr_callF (by simp only [CA, Nat.reduceEqDiff, ↓reduceIte]; rfl) (by exact rfl) (by simp only [CA, Nat.reduceEqDiff, ↓reduceIte]; rfl) rfl ?_)
            | ((with_reducible refine chk_h ?_); refine hr_app (by simp (disch := omega) only [hjk', jT, g0, c14r0, c14r1, c14r2, c14r3, c14r4, c14r5, c14r6, c14r7, c14r8, c14r9, c14r10, c14r11, c14r13, c14r15, EV0, EV1, EV2, EV3, EV4, EV5, EV6, EV7, EV8, VALS, plug, ite_same, decide_true, decide_false, eq_self, ↓reduceIte, reduceCtorEq, Nat.reduceAdd, Nat.reduceEqDiff, Nat.reduceLT, Nat.reduceLeDiff, Nat.reduceMul, Nat.reduceSub, Nat.reduceDiv, Int.reduceToNat, Int.reduceAdd, Int.reduceSub, Int.reduceMul, Int.reduceNeg, Int.reduceEq, Int.reduceLT, Int.reduceLE]; with_reducible rfl) rfl ?_)
            | (with_reducible refine k_condP (by simp only [GA, Nat.reduceEqDiff, ↓reduceIte]; rfl) (by first | (simp only [BO]; rfl) | rfl) (fun ht => ?_) (fun ht => ?_) <;> try (first | exact False.elim ht | exact absurd rfl ht | exact absurd trivial ht | exact Bool.noConfusion ht))
            | (with_reducible refine k_ret ?_; repeat with_reducible (first | refine ret_thru ?_ | refine ret_blk ?_ | refine fin ?_))
            | (with_reducible refine k_exit ?_; repeat with_reducible (first | refine thru ?_ | refine out_blk ?_ | refine pass (by decide) ?_))
            | (refine post1 ?_; simp only [GA, Nat.reduceEqDiff, ↓reduceIte])
            | (refine post2 ?_; simp only [GA, Nat.reduceEqDiff, ↓reduceIte])
            | (refine post3 ?_; simp only [GA, Nat.reduceEqDiff, ↓reduceIte])
            | (refine postc (by simp only [GA, Nat.reduceEqDiff, ↓reduceIte]; rfl) (by simp (disch := omega) only [hjk', jT, g0, c14r0, c14r1, c14r2, c14r3, c14r4, c14r5, c14r6, c14r7, c14r8, c14r9, c14r10, c14r11, c14r13, c14r15, EV0, EV1, EV2, EV3, EV4, EV5, EV6, EV7, EV8, VALS, plug, ite_same, decide_true, decide_false, eq_self, ↓reduceIte, reduceCtorEq, Nat.reduceAdd, Nat.reduceEqDiff, Nat.reduceLT, Nat.reduceLeDiff, Nat.reduceMul, Nat.reduceSub, Nat.reduceDiv, Int.reduceToNat, Int.reduceAdd, Int.reduceSub, Int.reduceMul, Int.reduceNeg, Int.reduceEq, Int.reduceLT, Int.reduceLE]; rfl) ?_)
            | refine post0 ?_
          · rw [stop fun h => (vk_succ.1 h).2.2 j hjk ht]
            exact ends_of
          · refine ⟨hjk, (), (by simp only [Am.keep, List.map_cons, List.map_nil, GA, Nat.reduceEqDiff, ↓reduceIte]; try rfl), fun i hi => ?_⟩
            by_cases e : i = j
            · subst e; exact ht
            · exact hd i (by omega)
        · obtain rfl : j = k := by omega
          have hjk' : ¬ (j : Int) < j := by omega
          repeat' first
            | with_reducible refine k_seq ?_
            | with_reducible refine k_skip ?_
            | with_reducible refine k_blkS ?_
            | with_reducible refine k_blkR ?_
            | with_reducible refine k_blkC ?_
            | with_reducible refine k_blkH ?_
            | with_reducible refine k_blkB ?_
            | with_reducible refine k_blkK ?_
            | with_reducible refine k_blkE ?_
            | with_reducible refine k_reg ?_
            | with_reducible refine k_head (by with_unfolding_all rfl) ?_
            | with_reducible refine k_headS ?_
            | (with_reducible refine SepK.mk ?_ ?_; (refine sepQ_P ?_; simp [sepQ, sepG, AOp.late, AOp.free, AOp.xs, AOp.isAl, tokNe, AV.tok, stS_get, strip, AX.val, c14r0, c14r1, c14r2, c14r3, c14r4, c14r5, c14r6, c14r7, c14r8, c14r9, c14r10, c14r11, c14r13, c14r15, GA]; try omega))
            | with_reducible refine r_done ?_
            | with_reducible refine hr_done ?_
            | with_reducible refine s_go (by simp (disch := omega) only [hjk', c14r0, c14r1, c14r2, c14r3, c14r4, c14r5, c14r6, c14r7, c14r8, c14r9, c14r10, c14r11, c14r13, c14r15, EV0, EV1, EV2, EV3, EV4, EV5, EV6, EV7, EV8, VALS, plug, ite_same, decide_true, decide_false, eq_self, ↓reduceIte, reduceCtorEq, Nat.reduceAdd, Nat.reduceEqDiff, Nat.reduceLT, Nat.reduceLeDiff, Nat.reduceMul, Nat.reduceSub, Nat.reduceDiv, Int.reduceToNat, Int.reduceAdd, Int.reduceSub, Int.reduceMul, Int.reduceNeg, Int.reduceEq, Int.reduceLT, Int.reduceLE]; with_reducible rfl) ?_
            | with_reducible refine h_go (by with_unfolding_all rfl) (by simp (disch := omega) only [hjk', c14r0, c14r1, c14r2, c14r3, c14r4, c14r5, c14r6, c14r7, c14r8, c14r9, c14r10, c14r11, c14r13, c14r15, EV0, EV1, EV2, EV3, EV4, EV5, EV6, EV7, EV8, VALS, plug, ite_same, decide_true, decide_false, eq_self, ↓reduceIte, reduceCtorEq, Nat.reduceAdd, Nat.reduceEqDiff, Nat.reduceLT, Nat.reduceLeDiff, Nat.reduceMul, Nat.reduceSub, Nat.reduceDiv, Int.reduceToNat, Int.reduceAdd, Int.reduceSub, Int.reduceMul, Int.reduceNeg, Int.reduceEq, Int.reduceLT, Int.reduceLE]; with_reducible rfl) ?_
            | ((with_reducible refine chk_r ?_); refine r_callF (by simp only [CA, Nat.reduceEqDiff, ↓reduceIte]; rfl) (by exact rfl) (by simp only [CA, Nat.reduceEqDiff, ↓reduceIte]; rfl) rfl ?_)
            | ((with_reducible refine chk_h ?_); refine hr_callF (by simp only [CA, Nat.reduceEqDiff, ↓reduceIte]; rfl) (by exact rfl) (by simp only [CA, Nat.reduceEqDiff, ↓reduceIte]; rfl) rfl ?_)
            | ((with_reducible refine chk_h ?_); refine hr_app (by simp (disch := omega) only [hjk', c14r0, c14r1, c14r2, c14r3, c14r4, c14r5, c14r6, c14r7, c14r8, c14r9, c14r10, c14r11, c14r13, c14r15, EV0, EV1, EV2, EV3, EV4, EV5, EV6, EV7, EV8, VALS, plug, ite_same, decide_true, decide_false, eq_self, ↓reduceIte, reduceCtorEq, Nat.reduceAdd, Nat.reduceEqDiff, Nat.reduceLT, Nat.reduceLeDiff, Nat.reduceMul, Nat.reduceSub, Nat.reduceDiv, Int.reduceToNat, Int.reduceAdd, Int.reduceSub, Int.reduceMul, Int.reduceNeg, Int.reduceEq, Int.reduceLT, Int.reduceLE]; with_reducible rfl) rfl ?_)
            | (with_reducible refine k_condP (by simp only [GA, Nat.reduceEqDiff, ↓reduceIte]; rfl) (by first | (simp only [BO]; rfl) | rfl) (fun ht => ?_) (fun ht => ?_) <;> try (first | exact False.elim ht | exact absurd rfl ht | exact absurd trivial ht | exact Bool.noConfusion ht))
            | (with_reducible refine k_ret ?_; repeat with_reducible (first | refine ret_thru ?_ | refine ret_blk ?_ | refine fin ?_))
            | (with_reducible refine k_exit ?_; repeat with_reducible (first | refine thru ?_ | refine out_blk ?_ | refine pass (by decide) ?_))
            | (refine post1 ?_; simp only [GA, Nat.reduceEqDiff, ↓reduceIte])
            | (refine post2 ?_; simp only [GA, Nat.reduceEqDiff, ↓reduceIte])
            | (refine post3 ?_; simp only [GA, Nat.reduceEqDiff, ↓reduceIte])
            | (refine postc (by simp only [GA, Nat.reduceEqDiff, ↓reduceIte]; rfl) (by simp (disch := omega) only [hjk', c14r0, c14r1, c14r2, c14r3, c14r4, c14r5, c14r6, c14r7, c14r8, c14r9, c14r10, c14r11, c14r13, c14r15, EV0, EV1, EV2, EV3, EV4, EV5, EV6, EV7, EV8, VALS, plug, ite_same, decide_true, decide_false, eq_self, ↓reduceIte, reduceCtorEq, Nat.reduceAdd, Nat.reduceEqDiff, Nat.reduceLT, Nat.reduceLeDiff, Nat.reduceMul, Nat.reduceSub, Nat.reduceDiv, Int.reduceToNat, Int.reduceAdd, Int.reduceSub, Int.reduceMul, Int.reduceNeg, Int.reduceEq, Int.reduceLT, Int.reduceLE]; rfl) ?_)
            | refine post0 ?_
          exact ⟨hlt, (), (by simp only [Am.keep, List.map_cons, List.map_nil, GA, Nat.reduceEqDiff, ↓reduceIte]; try rfl), vk_succ.2 ⟨hv, hvt, hd⟩⟩
    · have hlt' : ¬ (k : Int) < l.length := by omega
      obtain rfl : k = l.length := by omega
      repeat' first
        | with_reducible refine k_seq ?_
        | with_reducible refine k_skip ?_
        | with_reducible refine k_blkS ?_
        | with_reducible refine k_blkR ?_
        | with_reducible refine k_blkC ?_
        | with_reducible refine k_blkH ?_
        | with_reducible refine k_blkB ?_
        | with_reducible refine k_blkK ?_
        | with_reducible refine k_blkE ?_
        | with_reducible refine k_reg ?_
        | with_reducible refine k_head (by with_unfolding_all rfl) ?_
        | with_reducible refine k_headS ?_
        | (with_reducible refine SepK.mk ?_ ?_; (refine sepQ_P ?_; simp [sepQ, sepG, AOp.late, AOp.free, AOp.xs, AOp.isAl, tokNe, AV.tok, stS_get, strip, AX.val, c14r0, c14r1, c14r2, c14r3, c14r4, c14r5, c14r6, c14r7, c14r8, c14r9, c14r10, c14r11, c14r13, c14r15, GA]; try omega))
        | with_reducible refine r_done ?_
        | with_reducible refine hr_done ?_
        | with_reducible refine s_go (by simp (disch := omega) only [hlt', c14r0, c14r1, c14r2, c14r3, c14r4, c14r5, c14r6, c14r7, c14r8, c14r9, c14r10, c14r11, c14r13, c14r15, EV0, EV1, EV2, EV3, EV4, EV5, EV6, EV7, EV8, VALS, plug, ite_same, decide_true, decide_false, eq_self, ↓reduceIte, reduceCtorEq, Nat.reduceAdd, Nat.reduceEqDiff, Nat.reduceLT, Nat.reduceLeDiff, Nat.reduceMul, Nat.reduceSub, Nat.reduceDiv, Int.reduceToNat, Int.reduceAdd, Int.reduceSub, Int.reduceMul, Int.reduceNeg, Int.reduceEq, Int.reduceLT, Int.reduceLE]; with_reducible rfl) ?_
        | with_reducible refine h_go (by with_unfolding_all rfl) (by simp (disch := omega) only [hlt', c14r0, c14r1, c14r2, c14r3, c14r4, c14r5, c14r6, c14r7, c14r8, c14r9, c14r10, c14r11, c14r13, c14r15, EV0, EV1, EV2, EV3, EV4, EV5, EV6, EV7, EV8, VALS, plug, ite_same, decide_true, decide_false, eq_self, ↓reduceIte, reduceCtorEq, Nat.reduceAdd, Nat.reduceEqDiff, Nat.reduceLT, Nat.reduceLeDiff, Nat.reduceMul, Nat.reduceSub, Nat.reduceDiv, Int.reduceToNat, Int.reduceAdd, Int.reduceSub, Int.reduceMul, Int.reduceNeg, Int.reduceEq, Int.reduceLT, Int.reduceLE]; with_reducible rfl) ?_
        | ((with_reducible refine chk_r ?_); refine r_callF (by simp only [CA, Nat.reduceEqDiff, ↓reduceIte]; rfl) (by exact rfl) (by simp only [CA, Nat.reduceEqDiff, ↓reduceIte]; rfl) rfl ?_)
        | ((with_reducible refine chk_h ?_); refine hr_callF (by simp only [CA, Nat.reduceEqDiff, ↓reduceIte]; rfl) (by exact rfl) (by simp only [CA, Nat.reduceEqDiff, ↓reduceIte]; rfl) rfl ?_)
        | ((with_reducible refine chk_h ?_); refine hr_app (by simp (disch := omega) only [hlt', c14r0, c14r1, c14r2, c14r3, c14r4, c14r5, c14r6, c14r7, c14r8, c14r9, c14r10, c14r11, c14r13, c14r15, EV0, EV1, EV2, EV3, EV4, EV5, EV6, EV7, EV8, VALS, plug, ite_same, decide_true, decide_false, eq_self, ↓reduceIte, reduceCtorEq, Nat.reduceAdd, Nat.reduceEqDiff, Nat.reduceLT, Nat.reduceLeDiff, Nat.reduceMul, Nat.reduceSub, Nat.reduceDiv, Int.reduceToNat, Int.reduceAdd, Int.reduceSub, Int.reduceMul, Int.reduceNeg, Int.reduceEq, Int.reduceLT, Int.reduceLE]; with_reducible rfl) rfl ?_)
        | (with_reducible refine k_condP (by simp only [GA, Nat.reduceEqDiff, ↓reduceIte]; rfl) (by first | (simp only [BO]; rfl) | rfl) (fun ht => ?_) (fun ht => ?_) <;> try (first | exact False.elim ht | exact absurd rfl ht | exact absurd trivial ht | exact Bool.noConfusion ht))
        | (with_reducible refine k_ret ?_; repeat with_reducible (first | refine ret_thru ?_ | refine ret_blk ?_ | refine fin ?_))
        | (with_reducible refine k_exit ?_; repeat with_reducible (first | refine thru ?_ | refine out_blk ?_ | refine pass (by decide) ?_))
        | (refine post1 ?_; simp only [GA, Nat.reduceEqDiff, ↓reduceIte])
        | (refine post2 ?_; simp only [GA, Nat.reduceEqDiff, ↓reduceIte])
        | (refine post3 ?_; simp only [GA, Nat.reduceEqDiff, ↓reduceIte])
        | (refine postc (by simp only [GA, Nat.reduceEqDiff, ↓reduceIte]; rfl) (by simp (disch := omega) only [hlt', c14r0, c14r1, c14r2, c14r3, c14r4, c14r5, c14r6, c14r7, c14r8, c14r9, c14r10, c14r11, c14r13, c14r15, EV0, EV1, EV2, EV3, EV4, EV5, EV6, EV7, EV8, VALS, plug, ite_same, decide_true, decide_false, eq_self, ↓reduceIte, reduceCtorEq, Nat.reduceAdd, Nat.reduceEqDiff, Nat.reduceLT, Nat.reduceLeDiff, Nat.reduceMul, Nat.reduceSub, Nat.reduceDiv, Int.reduceToNat, Int.reduceAdd, Int.reduceSub, Int.reduceMul, Int.reduceNeg, Int.reduceEq, Int.reduceLT, Int.reduceLE]; rfl) ?_)
        | refine post0 ?_
      rw [vl_t ⟨by omega, hv⟩]
      exact ends_of
end Go.Proofs.Ytbhkbaapfioijaa
