/- The law LastCovers holds for every input; there is no condition. -/
import Derived.Test.YtjaihaccehaicaaZg
import Derived.Test.YtjaihaccehaicaaRows
import Derived.ProofKit
import Derived.OpenShut
import Derived.ShutString
import Derived.ChangeOld
set_option linter.unusedVariables false
namespace Go.Proofs.Ytjaihaccehaicaa
open Go.ChangeShapes Go.WideShapes Go.ChangeAt Go.RowKit
open Go.Am
theorem own9 : ownKnob Try.prog.godebug = none := by kernel_rfl
theorem laidOut9 : laidOutB Try.prog = true := by kernel_rfl
theorem flat9_47 : flat2 Try.prog 6 47 = some [.sl [.i .i64, .i .i64, .i .i64, .i .i64, .i .i64, .i .i64, .i .i64, .i .i64, .i .i64, .i .i64, .i .i64, .i .i64, .i .i64, .i .i64, .i .i64, .i .i64, .i .i64]] := by kernel_rfl
theorem flat9_48 : flat2 Try.prog 6 48 = some [.sl [.i .i64, .i .i64, .i .i64, .i .i64, .i .i64, .i .i64]] := by kernel_rfl
theorem flat9_22 : flat2 Try.prog 6 22 = some [.sl [.i .i64]] := by kernel_rfl
set_option maxRecDepth 100000 in
theorem lifted9 (os : Os) (started : os.Started) (H : Type) (enc : TypeId × Value → H) :
    ReturnsInHanded {} Try.checked os 9 .any (Rows.lastCoversSpec.pre6 enc Try.prog Try.f9 Rows.lastCoversRow.domain false) (Rows.lastCoversSpec.post enc Try.prog Try.f9 false true false false) := by
  refine returnsInHanded_of_change (C := Try.checked) own9 started (by kernel_rfl) Try.func9
    (ChangeSpec.witness6 (enc := enc) (C := Try.checked) false ⟨#[], #[.slice none 0 0, .slice none 0 0, .slice none 0 0], []⟩ 8 (by kernel_rfl) (by kernel_rfl) (by kernel_rfl) (by kernel_rfl)) ?_
  intro W base args ds gs before hval0 hW hcnd _
  have hval : ∀ (j : Nat) t v, Try.f9.params[j]? = some t → args[j]? = some v → Value.okWide Try.prog W .any base t v := hval0
  have hW' := hW
  obtain ⟨p, q, hA0, hV, rfl, hfz, hnd⟩ := hW
  have hA : DataW.TrodAll enc Try.prog W 0 (fun _ => true) true Try.f9.params.toList args.toList ds p := hA0
  rw [Try.params9] at hA hval
  obtain ⟨v0, vs0, d0, ds0, p0, q0, hargs, rfl, rfl, h0, z0⟩ := trodAll_cons hA
  obtain ⟨v1, vs1, d1, ds1, p1, q1, rfl, rfl, rfl, h1, z1⟩ := trodAll_cons z0
  obtain ⟨v2, vs2, d2, ds2, p2, q2, rfl, rfl, rfl, h2, z2⟩ := trodAll_cons z1
  obtain ⟨rfl, rfl, rfl⟩ := trodAll_nil z2
  obtain rfl : args = #[v0, v1, v2] := by cases args; simp_all
  obtain ⟨rfl, rfl⟩ := trodVars_none hV
  have lt0 : ∀ x ∈ p0, x.block < W.heap.size := by obtain ⟨m, hm⟩ := h0; exact DataW.trod_lt m _ _ _ hm
  have k0 := h0
  have lt1 : ∀ x ∈ p1, x.block < W.heap.size := by obtain ⟨m, hm⟩ := h1; exact DataW.trod_lt m _ _ _ hm
  have k1 := h1
  have lt2 : ∀ x ∈ p2, x.block < W.heap.size := by obtain ⟨m, hm⟩ := h2; exact DataW.trod_lt m _ _ _ hm
  have k2 := h2
  obtain ⟨a0, c0, d0_, rfl⟩ := okWide_slice Try.underlying47 (hval 0 47 v0 rfl rfl)
  obtain ⟨_, s0, r0⟩ := arg1 flat9_47 h0 rfl
  obtain ⟨l0, rfl, n0, m0⟩ := sl_dec (eZ) (fun _ => True) (decZ) s0
  obtain ⟨a1, c1, d1_, rfl⟩ := okWide_slice Try.underlying48 (hval 1 48 v1 rfl rfl)
  obtain ⟨_, s1, r1⟩ := arg1 flat9_48 h1 rfl
  obtain ⟨l1, rfl, n1, m1⟩ := sl_dec (eH) (fun _ => True) (decH) s1
  obtain ⟨a2, c2, d2_, rfl⟩ := okWide_slice Try.underlying22 (hval 2 22 v2 rfl rfl)
  obtain ⟨_, s2, r2⟩ := arg1 flat9_22 h2 rfl
  obtain ⟨l2, rfl, n2, m2⟩ := sl_dec (eI) (fun _ => True) (decI) s2
  clear hA0 hval0
  have hv := (vrels_cons r0 (vrels_cons r1 (vrels_cons r2 vrels_nil)))
  refine (law_pc (P := Try.prog) (f := 9) (w := W) (vs := #[.slice a0 c0 d0_, .slice a1 c1 d1_, .slice a2 c2 d2_]) (φW_ok W) hv (pc9' l0 n0 l1 n1 l2 n2)).mono fun e W' ⟨he, bel⟩ => ?_
  subst he
  exact ⟨_, rfl, _, _, _, [], _, [], hW', trodAll_mk1 (shut_bool Try.underlying4 _), (trodAll_cons_mk (Below.trod laidOut9 (by kernel_rfl) (of_decide_eq_true (by kernel_rfl)) k0 bel lt0) (trodAll_cons_mk (Below.trod laidOut9 (by kernel_rfl) (of_decide_eq_true (by kernel_rfl)) k1 bel lt1) (trodAll_cons_mk (Below.trod laidOut9 (by kernel_rfl) (of_decide_eq_true (by kernel_rfl)) k2 bel lt2) trodAll_mk0))), rfl, bel.frame _, fun h => by cases h⟩
theorem over9 : Rows.lastCoversRow.holds Try.pinned (OpenSpec.ofChange Rows.lastCoversSpec) :=
  OpenClaim.holds_of_wide 9 Try.f9 rfl rfl rfl rfl rfl rfl rfl ⟨rfl, rfl, rfl, rfl, rfl⟩ rfl rfl rfl rfl rfl (by kernel_rfl) Try.func9 (by kernel_rfl)
    (of_decide_eq_true (by kernel_rfl)) (by unfold Func.isWrapper; first | (rw [if_pos (by decide +kernel)]; kernel_rfl) | (rw [if_neg (by decide +kernel)]; exact ⟨rfl, rfl⟩))
    (fun os started H enc _ => lifted9 os started H enc)
theorem lastCovers_holds : Rows.LastCoversSaid := over9
end Go.Proofs.Ytjaihaccehaicaa
