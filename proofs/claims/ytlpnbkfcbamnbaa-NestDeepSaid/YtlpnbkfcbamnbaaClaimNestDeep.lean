/- The given statement NestDeepSaid is proved: for every input the law NestDeep returns true, and each argument reads as it did. No conditions. -/
import Derived.Test.YtlpnbkfcbamnbaaLawNestA
import Derived.Test.YtlpnbkfcbamnbaaOpen
import Derived.Test.YtlpnbkfcbamnbaaFacts
set_option linter.unusedVariables false
set_option linter.unusedSimpArgs false
set_option maxRecDepth 100000
namespace Go.Proofs.Ytlpnbkfcbamnbaa.nestDeep
open Go.ChangeShapes Go.WideShapes Go.ChangeAt Go.RowKit L
theorem lifted (os : Os) (started : os.Started) (H : Type) (enc : TypeId × Value → H) :
    ReturnsInHanded {} Try.checked os 7 .any (Rows.nestDeepSpec.pre6 enc Try.prog Try.f7 Rows.nestDeepRow.domain false) (Rows.nestDeepSpec.post enc Try.prog Try.f7 false true false false) := by
  refine returnsInHanded_of_change (C := Try.checked) own started (by kernel_rfl) Try.func7
    (ChangeSpec.witness6 (enc := enc) (C := Try.checked) false ⟨#[], #[.int .u16 0, .int .u16 0], []⟩ 8 (by kernel_rfl) (by kernel_rfl) (by kernel_rfl) (by kernel_rfl)) ?_
  intro W base args ds gs before hval0 hW hcnd _
  have hval : ∀ (j : Nat) t v, Try.f7.params[j]? = some t → args[j]? = some v → Value.okWide Try.prog W .any base t v := hval0
  have hW' := hW
  obtain ⟨p, q, hA0, hV, rfl, hfz, hnd⟩ := hW
  have hA : DataW.TrodAll enc Try.prog W 0 (fun _ => true) true Try.f7.params.toList args.toList ds p := hA0
  rw [Try.params7] at hA hval
  obtain ⟨v0, vs0, d0, ds0, p0, q0, hargs, rfl, hp0, h0, r0⟩ := trodAll_cons hA
  obtain ⟨v1, vs1, d1, ds1, p1, q1, rfl, rfl, rfl, h1, r1⟩ := trodAll_cons r0
  obtain ⟨rfl, rfl, rfl⟩ := trodAll_nil r1
  obtain ⟨rfl, rfl⟩ := trodVars_none hV
  obtain rfl : args = #[v0, v1] := by cases args; simp_all
  obtain ⟨a0, e0, _, _, w0⟩ := open_int Try.underlying34 (hval 0 34 v0 rfl rfl) h0
  have bd0 := bounds_u16 w0
  obtain ⟨n0, rfl⟩ := Int.eq_ofNat_of_zero_le bd0.1
  obtain ⟨a1, e1, _, _, w1⟩ := open_int Try.underlying34 (hval 1 34 v1 rfl rfl) h1
  have bd1 := bounds_u16 w1
  obtain ⟨n1, rfl⟩ := Int.eq_ofNat_of_zero_le bd1.1
  refine (show Calls Try.prog 7 #[v0, v1] W (fun e w' => e = .returned (.bool true) ∧ Below W.heap.size W w') by
    rw [e0, e1]
    exact lawNestDeep_any n0 n1 W (by omega) (by omega)).mono fun e W' ⟨he, hb⟩ => ?_
  subst he
  refine ⟨_, rfl, law_post (f := Try.f7) laidOut rfl ?_ rfl Try.underlying4 hW' hb rfl rfl rfl⟩
  intro t ht
  rw [Try.params7] at ht
  simp only [List.mem_cons, List.not_mem_nil, or_false] at ht
  rcases ht with rfl | rfl
  · exact rd_u16
  · exact rd_u16

theorem proved : Rows.NestDeepSaid :=
  OpenClaim.holds_of_wide 7 Try.f7 rfl rfl rfl rfl rfl rfl rfl ⟨rfl, rfl, rfl, rfl, rfl⟩ rfl rfl rfl rfl rfl (by kernel_rfl) Try.func7 (by kernel_rfl)
    (of_decide_eq_true (by kernel_rfl)) (by unfold Func.isWrapper; first | (rw [if_pos (by decide +kernel)]; kernel_rfl) | (rw [if_neg (by decide +kernel)]; exact ⟨rfl, rfl⟩))
    (fun os started H enc _ => lifted os started H enc)
end Go.Proofs.Ytlpnbkfcbamnbaa.nestDeep
