/- The law BarrelAssigns holds for every input; there is no condition. -/
import Derived.Test.YtjncfpfgobojpaaZg
import Derived.Test.YtjncfpfgobojpaaRows
import Derived.ProofKit
import Derived.OpenShut
import Derived.ShutString
import Derived.ChangeOld
set_option linter.unusedVariables false
namespace Go.Proofs.Ytjncfpfgobojpaa
open Go.ChangeShapes Go.WideShapes Go.ChangeAt Go.RowKit
open Go.Am
theorem own11 : ownKnob Try.prog.godebug = none := by kernel_rfl
theorem laidOut11 : laidOutB Try.prog = true := by kernel_rfl
theorem flat11_22 : flat2 Try.prog 6 22 = some [.sl [.i .i64, .i .i64, .i .i64, .i .i64, .i .i64, .i .i64, .i .i64]] := by kernel_rfl
theorem flat11_25 : flat2 Try.prog 6 25 = some [.sl [.sl [.i .i64]]] := by kernel_rfl
theorem flat11_44 : flat2 Try.prog 6 44 = some [.i .i64, .i .i64] := by kernel_rfl
set_option maxRecDepth 100000 in
theorem lifted11 (os : Os) (started : os.Started) (H : Type) (enc : TypeId × Value → H) :
    ReturnsInHanded {} Try.checked os 11 .any (Rows.barrelAssignsSpec.pre6 enc Try.prog Try.f11 Rows.barrelAssignsRow.domain false) (Rows.barrelAssignsSpec.post enc Try.prog Try.f11 false true false false) := by
  refine returnsInHanded_of_change (C := Try.checked) own11 started (by kernel_rfl) Try.func11
    (ChangeSpec.witness6 (enc := enc) (C := Try.checked) false ⟨#[], #[.slice none 0 0, .slice none 0 0, .agg #[.int .i64 0, .int .i64 0]], []⟩ 8 (by kernel_rfl) (by kernel_rfl) (by kernel_rfl) (by kernel_rfl)) ?_
  intro W base args ds gs before hval0 hW hcnd _
  have hval : ∀ (j : Nat) t v, Try.f11.params[j]? = some t → args[j]? = some v → Value.okWide Try.prog W .any base t v := hval0
  have hW' := hW
  obtain ⟨p, q, hA0, hV, rfl, hfz, hnd⟩ := hW
  have hA : DataW.TrodAll enc Try.prog W 0 (fun _ => true) true Try.f11.params.toList args.toList ds p := hA0
  rw [Try.params11] at hA hval
  obtain ⟨v0, vs0, d0, ds0, p0, q0, hargs, rfl, rfl, h0, z0⟩ := trodAll_cons hA
  obtain ⟨v1, vs1, d1, ds1, p1, q1, rfl, rfl, rfl, h1, z1⟩ := trodAll_cons z0
  obtain ⟨v2, vs2, d2, ds2, p2, q2, rfl, rfl, rfl, h2, z2⟩ := trodAll_cons z1
  obtain ⟨rfl, rfl, rfl⟩ := trodAll_nil z2
  obtain rfl : args = #[v0, v1, v2] := by cases args; simp_all
  obtain ⟨rfl, rfl⟩ := trodVars_none hV
  have lt0 : ∀ x ∈ p0, x.block < W.heap.size := by obtain ⟨m, hm⟩ := h0; exact DataW.trod_lt m _ _ _ hm
  have k0 := h0
  have lt1 : ∀ x ∈ p1, x.block < W.heap.size := by obtain ⟨m, hm⟩ := h1; exact DataW.trod_lt m _ _ _ hm
  have k1 := h1
  have lt2 : ∀ x ∈ p2, x.block < W.heap.size := by obtain ⟨m, hm⟩ := h2; exact DataW.trod_lt m _ _ _ hm
  have k2 := h2
  obtain ⟨a0, c0, d0_, rfl⟩ := okWide_slice Try.underlying22 (hval 0 22 v0 rfl rfl)
  obtain ⟨_, s0, r0⟩ := arg1 flat11_22 h0 rfl
  obtain ⟨l0, rfl, n0, m0⟩ := sl_dec (eB) (fun _ => True) (decB) s0
  obtain ⟨a1, c1, d1_, rfl⟩ := okWide_slice Try.underlying25 (hval 1 25 v1 rfl rfl)
  obtain ⟨_, s1, r1⟩ := arg1 flat11_25 h1 rfl
  obtain ⟨l1, rfl, n1, m1⟩ := sl_dec (eW) (fun r => r.length ≤ 9223372036854775807) (decW) s1
  obtain ⟨cs2, rfl, -⟩ := okWide_array Try.underlying44 (hval 2 44 v2 rfl rfl)
  obtain ⟨as2, s2_0, r2⟩ := argN flat11_44 h2
  obtain ⟨_, _, rfl, t2_0, s2_1⟩ := shps_cons s2_0
  obtain ⟨_, _, rfl, t2_1, s2_2⟩ := shps_cons s2_1
  obtain rfl := shps_nil s2_2
  obtain ⟨x2_0, rfl, w2_0⟩ := shp_i64 t2_0
  obtain ⟨x2_1, rfl, w2_1⟩ := shp_i64 t2_1
  clear hA0 hval0
  have hv := (vrels_cons r0 (vrels_cons r1 (vrels_cons r2 vrels_nil)))
  refine (law_pc (P := Try.prog) (f := 11) (w := W) (vs := #[.slice a0 c0 d0_, .slice a1 c1 d1_, .agg cs2]) (φW_ok W) hv (pc11' l0 n0 l1 n1 m1 x2_0 x2_1)).mono fun e W' ⟨he, bel⟩ => ?_
  subst he
  exact ⟨_, rfl, _, _, _, [], _, [], hW', trodAll_mk1 (shut_bool Try.underlying4 _), (trodAll_cons_mk (Below.trod laidOut11 (by kernel_rfl) (of_decide_eq_true (by kernel_rfl)) k0 bel lt0) (trodAll_cons_mk (Below.trod laidOut11 (by kernel_rfl) (of_decide_eq_true (by kernel_rfl)) k1 bel lt1) (trodAll_cons_mk (Below.trod laidOut11 (by kernel_rfl) (of_decide_eq_true (by kernel_rfl)) k2 bel lt2) trodAll_mk0))), rfl, bel.frame _, fun h => by cases h⟩
theorem over11 : Rows.barrelAssignsRow.holds Try.pinned (OpenSpec.ofChange Rows.barrelAssignsSpec) :=
  OpenClaim.holds_of_wide 11 Try.f11 rfl rfl rfl rfl rfl rfl rfl ⟨rfl, rfl, rfl, rfl, rfl⟩ rfl rfl rfl rfl rfl (by kernel_rfl) Try.func11 (by kernel_rfl)
    (of_decide_eq_true (by kernel_rfl)) (by unfold Func.isWrapper; first | (rw [if_pos (by decide +kernel)]; kernel_rfl) | (rw [if_neg (by decide +kernel)]; exact ⟨rfl, rfl⟩))
    (fun os started H enc _ => lifted11 os started H enc)
theorem barrelAssigns_holds : Rows.BarrelAssignsSaid := over11
end Go.Proofs.Ytjncfpfgobojpaa
