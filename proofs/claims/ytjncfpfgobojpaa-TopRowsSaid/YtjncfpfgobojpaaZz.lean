/- The law TopRows holds for every input; there is no condition. -/
import Derived.Test.YtjncfpfgobojpaaZi
import Derived.Test.YtjncfpfgobojpaaRows
import Derived.ProofKit
import Derived.OpenShut
import Derived.ShutString
import Derived.ChangeOld
set_option linter.unusedVariables false
namespace Go.Proofs.Ytjncfpfgobojpaa
open Go.ChangeShapes Go.WideShapes Go.ChangeAt Go.RowKit
open Go.Am
theorem own15 : ownKnob Try.prog.godebug = none := by kernel_rfl
theorem laidOut15 : laidOutB Try.prog = true := by kernel_rfl
theorem flat15_22 : flat2 Try.prog 6 22 = some [.sl [.i .i64, .i .i64, .i .i64, .i .i64, .i .i64, .i .i64, .i .i64]] := by kernel_rfl
theorem flat15_71 : flat2 Try.prog 6 71 = some [.i .u8, .i .u8] := by kernel_rfl
set_option maxRecDepth 100000 in
theorem lifted15 (os : Os) (started : os.Started) (H : Type) (enc : TypeId × Value → H) :
 ReturnsInHanded {} Try.checked os 15 .any (Rows.topRowsSpec.pre6 enc Try.prog Try.f15 Rows.topRowsRow.domain false) (Rows.topRowsSpec.post enc Try.prog Try.f15 false true false false) := by
 refine returnsInHanded_of_change (C := Try.checked) own15 started (by kernel_rfl) Try.func15
  (ChangeSpec.witness6 (enc := enc) (C := Try.checked) false ⟨#[], #[.slice none 0 0, .agg #[.int .u8 0, .int .u8 0]], []⟩ 8 (by kernel_rfl) (by kernel_rfl) (by kernel_rfl) (by kernel_rfl)) ?_
 intro W base args ds gs before hval0 hW hcnd _
 have hval : ∀ (j : Nat) t v, Try.f15.params[j]? = some t → args[j]? = some v → Value.okWide Try.prog W .any base t v := hval0
 have hW' := hW
 obtain ⟨p, q, hA0, hV, rfl, hfz, hnd⟩ := hW
 have hA : DataW.TrodAll enc Try.prog W 0 (fun _ => true) true Try.f15.params.toList args.toList ds p := hA0
 rw [Try.params15] at hA hval
 obtain ⟨v0, vs0, d0, ds0, p0, q0, hargs, rfl, rfl, h0, z0⟩ := trodAll_cons hA
 obtain ⟨v1, vs1, d1, ds1, p1, q1, rfl, rfl, rfl, h1, z1⟩ := trodAll_cons z0
 obtain ⟨rfl, rfl, rfl⟩ := trodAll_nil z1
 obtain rfl : args = #[v0, v1] := by cases args; simp_all
 obtain ⟨rfl, rfl⟩ := trodVars_none hV
 have lt0 : ∀ x ∈ p0, x.block < W.heap.size := by obtain ⟨m, hm⟩ := h0; exact DataW.trod_lt m _ _ _ hm
 have k0 := h0
 have lt1 : ∀ x ∈ p1, x.block < W.heap.size := by obtain ⟨m, hm⟩ := h1; exact DataW.trod_lt m _ _ _ hm
 have k1 := h1
 obtain ⟨a0, c0, d0_, rfl⟩ := okWide_slice Try.underlying22 (hval 0 22 v0 rfl rfl)
 obtain ⟨_, s0, r0⟩ := arg1 flat15_22 h0 rfl
 obtain ⟨l0, rfl, n0, m0⟩ := sl_dec (eB) (fun _ => True) (decB) s0
 obtain ⟨cs1, rfl, -⟩ := okWide_array Try.underlying71 (hval 1 71 v1 rfl rfl)
 obtain ⟨as1, s1_0, r1⟩ := argN flat15_71 h1
 obtain ⟨_, _, rfl, t1_0, s1_1⟩ := shps_cons s1_0
 obtain ⟨_, _, rfl, t1_1, s1_2⟩ := shps_cons s1_1
 obtain rfl := shps_nil s1_2
 obtain ⟨x1_0, rfl, w1_0⟩ := shp_u8 t1_0
 obtain ⟨x1_1, rfl, w1_1⟩ := shp_u8 t1_1
 clear hA0 hval0
 have hv := (vrels_cons r0 (vrels_cons r1 vrels_nil))
 refine (law_pc (P := Try.prog) (f := 15) (w := W) (vs := #[.slice a0 c0 d0_, .agg cs1]) (φW_ok W) hv (pc15 l0 n0 x1_0 x1_1 w1_0 w1_1)).mono fun e W' ⟨he, bel⟩ => ?_
 subst he
 exact ⟨_, rfl, _, _, _, [], _, [], hW', trodAll_mk1 (shut_bool Try.underlying4 _), (trodAll_cons_mk (Below.trod laidOut15 (by kernel_rfl) (of_decide_eq_true (by kernel_rfl)) k0 bel lt0) (trodAll_cons_mk (Below.trod laidOut15 (by kernel_rfl) (of_decide_eq_true (by kernel_rfl)) k1 bel lt1) trodAll_mk0)), rfl, bel.frame _, fun h => by cases h⟩
theorem over15 : Rows.topRowsRow.holds Try.pinned (OpenSpec.ofChange Rows.topRowsSpec) :=
 OpenClaim.holds_of_wide 15 Try.f15 rfl rfl rfl rfl rfl rfl rfl ⟨rfl, rfl, rfl, rfl, rfl⟩ rfl rfl rfl rfl rfl (by kernel_rfl) Try.func15 (by kernel_rfl)
  (of_decide_eq_true (by kernel_rfl)) (by unfold Func.isWrapper; first | (rw [if_pos (by decide +kernel)]; kernel_rfl) | (rw [if_neg (by decide +kernel)]; exact ⟨rfl, rfl⟩))
  (fun os started H enc _ => lifted15 os started H enc)
theorem topRows_holds : Rows.TopRowsSaid := over15
end Go.Proofs.Ytjncfpfgobojpaa
