/- The law LedgerBooks holds for every input; there is no condition. -/
import Derived.Test.YtfbhncddniofbaaZf
import Derived.Test.YtfbhncddniofbaaRows
import Derived.ProofKit
import Derived.OpenShut
import Derived.ShutString
import Derived.ChangeOld
set_option linter.unusedVariables false
namespace Go.Proofs.Ytfbhncddniofbaa
open Go.ChangeShapes Go.WideShapes Go.ChangeAt Go.RowKit
open Go.Am
theorem own5 : ownKnob Try.prog.godebug = none := by kernel_rfl
theorem laidOut5 : laidOutB Try.prog = true := by kernel_rfl
theorem flat5_22 : flat2 Try.prog 6 22 = some [.sl [.i .i64, .i .i64, .i .i64, .i .i64]] := by kernel_rfl
theorem flat5_49 : flat2 Try.prog 6 49 = some [.i .i64, .i .i64, .i .i64, .i .i64] := by kernel_rfl
set_option maxRecDepth 100000 in
theorem lifted5 (os : Os) (started : os.Started) (H : Type) (enc : TypeId × Value → H) :
    ReturnsInHanded {} Try.checked os 5 .any (Rows.ledgerBooksSpec.pre6 enc Try.prog Try.f5 Rows.ledgerBooksRow.domain false) (Rows.ledgerBooksSpec.post enc Try.prog Try.f5 false true false false) := by
  refine returnsInHanded_of_change (C := Try.checked) own5 started (by kernel_rfl) Try.func5
    (ChangeSpec.witness6 (enc := enc) (C := Try.checked) false ⟨#[], #[.slice none 0 0, .agg #[.int .i64 0, .int .i64 0, .int .i64 0, .int .i64 0]], []⟩ 8 (by kernel_rfl) (by kernel_rfl) (by kernel_rfl) (by kernel_rfl)) ?_
  intro W base args ds gs before hval0 hW hcnd _
  have hval : ∀ (j : Nat) t v, Try.f5.params[j]? = some t → args[j]? = some v → Value.okWide Try.prog W .any base t v := hval0
  have hW' := hW
  obtain ⟨p, q, hA0, hV, rfl, hfz, hnd⟩ := hW
  have hA : DataW.TrodAll enc Try.prog W 0 (fun _ => true) true Try.f5.params.toList args.toList ds p := hA0
  rw [Try.params5] at hA hval
  obtain ⟨v0, vs0, d0, ds0, p0, q0, hargs, rfl, rfl, h0, z0⟩ := trodAll_cons hA
  obtain ⟨v1, vs1, d1, ds1, p1, q1, rfl, rfl, rfl, h1, z1⟩ := trodAll_cons z0
  obtain ⟨rfl, rfl, rfl⟩ := trodAll_nil z1
  obtain rfl : args = #[v0, v1] := by cases args; simp_all
  obtain ⟨rfl, rfl⟩ := trodVars_none hV
  have lt0 : ∀ x ∈ p0, x.block < W.heap.size := by obtain ⟨m, hm⟩ := h0; exact DataW.trod_lt m _ _ _ hm
  have k0 := h0
  have lt1 : ∀ x ∈ p1, x.block < W.heap.size := by obtain ⟨m, hm⟩ := h1; exact DataW.trod_lt m _ _ _ hm
  have k1 := h1
  obtain ⟨a0, c0, d0_, rfl⟩ := okWide_slice Try.underlying22 (hval 0 22 v0 rfl rfl)
  obtain ⟨_, s0, r0⟩ := arg1 flat5_22 h0 rfl
  obtain ⟨l0, rfl, n0, m0⟩ := sl_dec (eE) (enW) (decE) s0
  obtain ⟨cs1, rfl, -⟩ := okWide_struct Try.underlying49 (hval 1 49 v1 rfl rfl)
  obtain ⟨as1, s1_0, r1⟩ := argN flat5_49 h1
  obtain ⟨_, _, rfl, t1_0, s1_1⟩ := shps_cons s1_0
  obtain ⟨_, _, rfl, t1_1, s1_2⟩ := shps_cons s1_1
  obtain ⟨_, _, rfl, t1_2, s1_3⟩ := shps_cons s1_2
  obtain ⟨_, _, rfl, t1_3, s1_4⟩ := shps_cons s1_3
  obtain rfl := shps_nil s1_4
  obtain ⟨x1_0, rfl, w1_0⟩ := shp_i64 t1_0
  obtain ⟨x1_1, rfl, w1_1⟩ := shp_i64 t1_1
  obtain ⟨x1_2, rfl, w1_2⟩ := shp_i64 t1_2
  obtain ⟨x1_3, rfl, w1_3⟩ := shp_i64 t1_3
  clear hA0 hval0
  have hv := (vrels_cons r0 (vrels_cons r1 vrels_nil))
  refine (law_pc (P := Try.prog) (f := 5) (w := W) (vs := #[.slice a0 c0 d0_, .agg cs1]) (φW_ok W) hv (pc5 l0 n0 ⟨x1_0, x1_1, x1_2, x1_3⟩)).mono fun e W' ⟨he, bel⟩ => ?_
  subst he
  exact ⟨_, rfl, _, _, _, [], _, [], hW', trodAll_mk1 (shut_bool Try.underlying4 _), (trodAll_cons_mk (Below.trod laidOut5 (by kernel_rfl) (of_decide_eq_true (by kernel_rfl)) k0 bel lt0) (trodAll_cons_mk (Below.trod laidOut5 (by kernel_rfl) (of_decide_eq_true (by kernel_rfl)) k1 bel lt1) trodAll_mk0)), rfl, bel.frame _, fun h => by cases h⟩
theorem over5 : Rows.ledgerBooksRow.holds Try.pinned (OpenSpec.ofChange Rows.ledgerBooksSpec) :=
  OpenClaim.holds_of_wide 5 Try.f5 rfl rfl rfl rfl rfl rfl rfl ⟨rfl, rfl, rfl, rfl, rfl⟩ rfl rfl rfl rfl rfl (by kernel_rfl) Try.func5 (by kernel_rfl)
    (of_decide_eq_true (by kernel_rfl)) (by unfold Func.isWrapper; first | (rw [if_pos (by decide +kernel)]; kernel_rfl) | (rw [if_neg (by decide +kernel)]; exact ⟨rfl, rfl⟩))
    (fun os started H enc _ => lifted5 os started H enc)
theorem ledgerBooks_holds : Rows.LedgerBooksSaid := over5
end Go.Proofs.Ytfbhncddniofbaa
