/-
  FOR EVERY INPUT the law FnExactRepairFault returns true, and each argument reads afterwards as it read before: the walk, and the step to the given statement. No condition.
-/
import Derived.Test.YteahiiflgiimnaaExactRepairFault
import Derived.Test.YteahiiflgiimnaaOpen
import Derived.Test.YteahiiflgiimnaaOpA
namespace Go.Proofs.Yteahiiflgiimnaa.fnExactRepairFault
open Go.ChangeShapes Go.WideShapes Go.ChangeAt Go.RowKit Go.Deep

theorem own : ownKnob Try.prog.godebug = none := by kernel_rfl
theorem laidOut : laidOutB Try.prog = true := by kernel_rfl

set_option maxRecDepth 100000 in
theorem lifted (os : Os) (started : os.Started) (H : Type) (enc : TypeId × Value → H) :
    ReturnsInHanded {} Try.checked os 3 .any (Rows.fnExactRepairFaultSpec.pre6 enc Try.prog Try.f3 Rows.fnExactRepairFaultRow.domain false) (Rows.fnExactRepairFaultSpec.post enc Try.prog Try.f3 false true false false) := by
  refine returnsInHanded_of_change (C := Try.checked) own started (by kernel_rfl) Try.func3
    (ChangeSpec.witness6 (enc := enc) (C := Try.checked) false ⟨#[], #[.slice none 0 0, .agg #[.int .i64 0, .int .i64 0, .int .i64 0], .agg #[.int .i64 0, .int .i64 0, .int .i64 0, .int .i64 0]], []⟩ 8 (by kernel_rfl) (by kernel_rfl) (by kernel_rfl) (by kernel_rfl)) ?_
  intro W base args ds gs before hval0 hW hcnd _
  have hval : ∀ (j : Nat) t v, Try.f3.params[j]? = some t → args[j]? = some v → Value.okWide Try.prog W .any base t v := hval0
  have hW' := hW
  obtain ⟨p, q, hA0, hV, rfl, hfz, hnd⟩ := hW
  have hA : DataW.TrodAll enc Try.prog W 0 (fun _ => true) true Try.f3.params.toList args.toList ds p := hA0
  rw [Try.params3] at hA hval
  obtain ⟨v0, vs0, d0, ds0, p0, q0, hargs, rfl, rfl, h0, r0⟩ := trodAll_cons hA
  obtain ⟨v1, vs1, d1, ds1, p1, q1, rfl, rfl, rfl, h1, r1⟩ := trodAll_cons r0
  obtain ⟨v2, vs2, d2, ds2, p2, q2, rfl, rfl, rfl, h2, r2⟩ := trodAll_cons r1
  obtain ⟨rfl, rfl, rfl⟩ := trodAll_nil r2
  obtain rfl : args = #[v0, v1, v2] := by cases args; simp_all
  obtain ⟨rfl, rfl⟩ := trodVars_none hV
  have k0 := h0
  have lt0 : ∀ x ∈ p0, x.block < W.heap.size := by obtain ⟨m, hm⟩ := k0; exact DataW.trod_lt m _ _ _ hm
  obtain ⟨A0, n0, c0, rfl⟩ := okWide_slice Try.underlying22 (hval 0 22 v0 rfl rfl)
  obtain ⟨x0, R0, F0⟩ := (by obtain ⟨fuel, hf⟩ := h0; exact open3 Try.underlying22 Try.underlying78 (by kernel_rfl) (by kernel_rfl) rfl (by intro i f hf; match i, hf with | 0, rfl => exact Try.underlying3 | 1, rfl => exact Try.underlying3 | 2, rfl => exact Try.underlying3) (by simpa [Value.cells] using hf) : ∃ x0, Rd W 3 A0 n0 c0 (c3 x0) ∧ ∀ m ∈ x0, Fits m.1 ∧ Fits m.2.1 ∧ Fits m.2.2)
  have k1 := h1
  have lt1 : ∀ x ∈ p1, x.block < W.heap.size := by obtain ⟨m, hm⟩ := k1; exact DataW.trod_lt m _ _ _ hm
  obtain ⟨x1_0, x1_1, x1_2, rfl, F1_0, F1_1, F1_2⟩ := openAgg3 Try.underlying24 Try.underlying3 (by kernel_rfl) (by kernel_rfl) (by kernel_rfl) rfl (hval 1 24 v1 rfl rfl) h1
  have k2 := h2
  have lt2 : ∀ x ∈ p2, x.block < W.heap.size := by obtain ⟨m, hm⟩ := k2; exact DataW.trod_lt m _ _ _ hm
  obtain ⟨x2_0, x2_1, x2_2, x2_3, rfl, F2_0, F2_1, F2_2, F2_3⟩ := openAgg4 Try.underlying26 Try.underlying3 (by kernel_rfl) (by kernel_rfl) (by kernel_rfl) rfl (hval 2 26 v2 rfl rfl) h2
  clear hA0 hval0
  refine (FnExactRepairFault_walk A0 n0 c0 x0 x1_0 x1_1 x1_2 x2_0 x2_1 x2_2 x2_3 W R0 F0 F1_0 F1_1 F1_2 F2_0 F2_1 F2_2 F2_3).mono fun e W' ⟨he, bel⟩ => ?_
  subst he
  exact ⟨_, rfl, _, _, _, [], _, [], hW', trodAll_mk1 (shut_bool Try.underlying4 _), (trodAll_cons_mk (Below.trod laidOut (by kernel_rfl) (of_decide_eq_true (by kernel_rfl)) k0 bel lt0) (trodAll_cons_mk (Below.trod laidOut (by kernel_rfl) (of_decide_eq_true (by kernel_rfl)) k1 bel lt1) (trodAll_cons_mk (Below.trod laidOut (by kernel_rfl) (of_decide_eq_true (by kernel_rfl)) k2 bel lt2) trodAll_mk0))), rfl, bel.frame _, fun h => by cases h⟩

theorem over : Rows.fnExactRepairFaultRow.holds Try.pinned (OpenSpec.ofChange Rows.fnExactRepairFaultSpec) :=
  OpenClaim.holds_of_wide 3 Try.f3 rfl rfl rfl rfl rfl rfl rfl ⟨rfl, rfl, rfl, rfl, rfl⟩ rfl rfl rfl rfl rfl (by kernel_rfl) Try.func3 (by kernel_rfl)
    (of_decide_eq_true (by kernel_rfl)) (by unfold Func.isWrapper; first | (rw [if_pos (by decide +kernel)]; kernel_rfl) | (rw [if_neg (by decide +kernel)]; exact ⟨rfl, rfl⟩))
    (fun os started H enc _ => lifted os started H enc)

/-- The given statement. -/
theorem proved : Rows.FnExactRepairFaultSaid := over
end Go.Proofs.Yteahiiflgiimnaa.fnExactRepairFault
