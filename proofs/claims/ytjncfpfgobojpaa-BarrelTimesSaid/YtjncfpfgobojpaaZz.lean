/- The law BarrelTimes holds for every input; there is no condition. -/
import Derived.Test.YtjncfpfgobojpaaZh
import Derived.Test.YtjncfpfgobojpaaRows
import Derived.ProofKit
import Derived.OpenShut
import Derived.ShutString
import Derived.ChangeOld
set_option linter.unusedVariables false
namespace Go.Proofs.Ytjncfpfgobojpaa
open Go.ChangeShapes Go.WideShapes Go.ChangeAt Go.RowKit
open Go.Am
theorem own13 : ownKnob Try.prog.godebug = none := by kernel_rfl
theorem laidOut13 : laidOutB Try.prog = true := by kernel_rfl
theorem flat13_22 : flat2 Try.prog 6 22 = some [.sl [.i .i64, .i .i64, .i .i64, .i .i64, .i .i64, .i .i64, .i .i64]] := by kernel_rfl
theorem flat13_44 : flat2 Try.prog 6 44 = some [.i .i64, .i .i64] := by kernel_rfl
theorem flat13_56 : flat2 Try.prog 6 56 = some [.sl [.sl [.i .i64, .i .i64, .i .i64, .b]]] := by kernel_rfl
set_option maxRecDepth 100000 in
theorem lifted13 (os : Os) (started : os.Started) (H : Type) (enc : TypeId × Value → H) :
    ReturnsInHanded {} Try.checked os 13 .any (Rows.barrelTimesSpec.pre6 enc Try.prog Try.f13 Rows.barrelTimesRow.domain false) (Rows.barrelTimesSpec.post enc Try.prog Try.f13 false true false false) := by
  refine returnsInHanded_of_change (C := Try.checked) own13 started (by kernel_rfl) Try.func13
    (ChangeSpec.witness6 (enc := enc) (C := Try.checked) false ⟨#[], #[.slice none 0 0, .agg #[.int .i64 0, .int .i64 0], .slice none 0 0], []⟩ 8 (by kernel_rfl) (by kernel_rfl) (by kernel_rfl) (by kernel_rfl)) ?_
  intro W base args ds gs before hval0 hW hcnd _
  have hval : ∀ (j : Nat) t v, Try.f13.params[j]? = some t → args[j]? = some v → Value.okWide Try.prog W .any base t v := hval0
  have hW' := hW
  obtain ⟨p, q, hA0, hV, rfl, hfz, hnd⟩ := hW
  have hA : DataW.TrodAll enc Try.prog W 0 (fun _ => true) true Try.f13.params.toList args.toList ds p := hA0
  rw [Try.params13] at hA hval
  obtain ⟨v0, vs0, d0, ds0, p0, q0, hargs, rfl, rfl, h0, z0⟩ := trodAll_cons hA
  obtain ⟨v1, vs1, d1, ds1, p1, q1, rfl, rfl, rfl, h1, z1⟩ := trodAll_cons z0
  obtain ⟨v2, vs2, d2, ds2, p2, q2, rfl, rfl, rfl, h2, z2⟩ := trodAll_cons z1
  obtain ⟨rfl, rfl, rfl⟩ := trodAll_nil z2
  obtain rfl : args = #[v0, v1, v2] := by cases args; simp_all
  obtain ⟨rfl, rfl⟩ := trodVars_none hV
  have lt0 : ∀ x ∈ p0, x.block < W.heap.size := by obtain ⟨m, hm⟩ := h0; exact DataW.trod_lt m _ _ _ hm
  have k0 := h0
  have lt1 : ∀ x ∈ p1, x.block < W.heap.size := by obtain ⟨m, hm⟩ := h1; exact DataW.trod_lt m _ _ _ hm
  have k1 := h1
  have lt2 : ∀ x ∈ p2, x.block < W.heap.size := by obtain ⟨m, hm⟩ := h2; exact DataW.trod_lt m _ _ _ hm
  have k2 := h2
  obtain ⟨a0, c0, d0_, rfl⟩ := okWide_slice Try.underlying22 (hval 0 22 v0 rfl rfl)
  obtain ⟨_, s0, r0⟩ := arg1 flat13_22 h0 rfl
  obtain ⟨l0, rfl, n0, m0⟩ := sl_dec (eB) (fun _ => True) (decB) s0
  obtain ⟨cs1, rfl, -⟩ := okWide_array Try.underlying44 (hval 1 44 v1 rfl rfl)
  obtain ⟨as1, s1_0, r1⟩ := argN flat13_44 h1
  obtain ⟨_, _, rfl, t1_0, s1_1⟩ := shps_cons s1_0
  obtain ⟨_, _, rfl, t1_1, s1_2⟩ := shps_cons s1_1
  obtain rfl := shps_nil s1_2
  obtain ⟨x1_0, rfl, w1_0⟩ := shp_i64 t1_0
  obtain ⟨x1_1, rfl, w1_1⟩ := shp_i64 t1_1
  obtain ⟨a2, c2, d2_, rfl⟩ := okWide_slice Try.underlying56 (hval 2 56 v2 rfl rfl)
  obtain ⟨_, s2, r2⟩ := arg1 flat13_56 h2 rfl
  obtain ⟨l2, rfl, n2, m2⟩ := sl_dec (eX) (RWr) (decX) s2
  clear hA0 hval0
  have hv := (vrels_cons r0 (vrels_cons r1 (vrels_cons r2 vrels_nil)))
  refine (law_pc (P := Try.prog) (f := 13) (w := W) (vs := #[.slice a0 c0 d0_, .agg cs1, .slice a2 c2 d2_]) (φW_ok W) hv (pc13' l0 n0 x1_0 x1_1 l2 n2 m2)).mono fun e W' ⟨he, bel⟩ => ?_
  subst he
  exact ⟨_, rfl, _, _, _, [], _, [], hW', trodAll_mk1 (shut_bool Try.underlying4 _), (trodAll_cons_mk (Below.trod laidOut13 (by kernel_rfl) (of_decide_eq_true (by kernel_rfl)) k0 bel lt0) (trodAll_cons_mk (Below.trod laidOut13 (by kernel_rfl) (of_decide_eq_true (by kernel_rfl)) k1 bel lt1) (trodAll_cons_mk (Below.trod laidOut13 (by kernel_rfl) (of_decide_eq_true (by kernel_rfl)) k2 bel lt2) trodAll_mk0))), rfl, bel.frame _, fun h => by cases h⟩
theorem over13 : Rows.barrelTimesRow.holds Try.pinned (OpenSpec.ofChange Rows.barrelTimesSpec) :=
  OpenClaim.holds_of_wide 13 Try.f13 rfl rfl rfl rfl rfl rfl rfl ⟨rfl, rfl, rfl, rfl, rfl⟩ rfl rfl rfl rfl rfl (by kernel_rfl) Try.func13 (by kernel_rfl)
    (of_decide_eq_true (by kernel_rfl)) (by unfold Func.isWrapper; first | (rw [if_pos (by decide +kernel)]; kernel_rfl) | (rw [if_neg (by decide +kernel)]; exact ⟨rfl, rfl⟩))
    (fun os started H enc _ => lifted13 os started H enc)
theorem barrelTimes_holds : Rows.BarrelTimesSaid := over13
end Go.Proofs.Ytjncfpfgobojpaa
