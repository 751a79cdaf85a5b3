/- The given statement ParenBalancedSaid is proved: for every input the law ParenBalanced returns true, and each argument reads as it did. No conditions. -/
import Derived.Test.YtdhokioiloggeaaLawParenC
import Derived.Test.YtdhokioiloggeaaOpen
import Derived.Test.YtdhokioiloggeaaFacts
set_option linter.unusedVariables false
set_option linter.unusedSimpArgs false
set_option maxRecDepth 100000
namespace Go.Proofs.Ytdhokioiloggeaa.parenBalanced
open Go.ChangeShapes Go.WideShapes Go.ChangeAt Go.RowKit L
theorem lifted (os : Os) (started : os.Started) (H : Type) (enc : TypeId × Value → H) :
    ReturnsInHanded {} Try.checked os 15 .any (Rows.parenBalancedSpec.pre6 enc Try.prog Try.f15 Rows.parenBalancedRow.domain false) (Rows.parenBalancedSpec.post enc Try.prog Try.f15 false true false false) := by
  refine returnsInHanded_of_change (C := Try.checked) own started (by kernel_rfl) Try.func15
    (ChangeSpec.witness6 (enc := enc) (C := Try.checked) false ⟨#[], #[.slice none 0 0], []⟩ 8 (by kernel_rfl) (by kernel_rfl) (by kernel_rfl) (by kernel_rfl)) ?_
  intro W base args ds gs before hval0 hW hcnd _
  have hval : ∀ (j : Nat) t v, Try.f15.params[j]? = some t → args[j]? = some v → Value.okWide Try.prog W .any base t v := hval0
  have hW' := hW
  obtain ⟨p, q, hA0, hV, rfl, hfz, hnd⟩ := hW
  have hA : DataW.TrodAll enc Try.prog W 0 (fun _ => true) true Try.f15.params.toList args.toList ds p := hA0
  rw [Try.params15] at hA hval
  obtain ⟨v0, vs0, d0, ds0, p0, q0, hargs, rfl, hp0, h0, r0⟩ := trodAll_cons hA
  obtain ⟨rfl, rfl, rfl⟩ := trodAll_nil r0
  obtain ⟨rfl, rfl⟩ := trodVars_none hV
  obtain rfl : args = #[v0] := by cases args; simp_all
  obtain ⟨A0, l0, c0, e0, hl0, hm0⟩ := opn_bools Try.underlying27 Try.underlying4 (hval 0 27 v0 rfl rfl) h0
  refine (show Calls Try.prog 15 #[v0] W (fun e w' => e = .returned (.bool true) ∧ Below W.heap.size W w') by
    rw [e0]
    exact lawParenBalanced_any A0 c0 l0 W hl0).mono fun e W' ⟨he, hb⟩ => ?_
  subst he
  refine ⟨_, rfl, law_post (f := Try.f15) laidOut rfl ?_ rfl Try.underlying4 hW' hb rfl rfl rfl⟩
  intro t ht
  rw [Try.params15] at ht
  simp only [List.mem_cons, List.not_mem_nil, or_false] at ht
  rcases ht with rfl
  · exact rd_bools

theorem proved : Rows.ParenBalancedSaid :=
  OpenClaim.holds_of_wide 15 Try.f15 rfl rfl rfl rfl rfl rfl rfl ⟨rfl, rfl, rfl, rfl, rfl⟩ rfl rfl rfl rfl rfl (by kernel_rfl) Try.func15 (by kernel_rfl)
    (of_decide_eq_true (by kernel_rfl)) (by unfold Func.isWrapper; first | (rw [if_pos (by decide +kernel)]; kernel_rfl) | (rw [if_neg (by decide +kernel)]; exact ⟨rfl, rfl⟩))
    (fun os started H enc _ => lifted os started H enc)
end Go.Proofs.Ytdhokioiloggeaa.parenBalanced
