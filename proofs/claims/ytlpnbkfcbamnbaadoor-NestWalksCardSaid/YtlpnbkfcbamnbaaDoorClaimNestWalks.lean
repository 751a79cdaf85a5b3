/- The given card NestWalksCardSaid is proved: for every input the law NestWalks returns true, and each argument reads as it did. No conditions. -/
import Derived.Test.YtlpnbkfcbamnbaaDoorLawNestD
import Derived.Test.YtlpnbkfcbamnbaaDoorOpen
import Derived.Test.YtlpnbkfcbamnbaaDoorFactsD
import Derived.Test.YtlpnbkfcbamnbaaDoorCards
import Derived.SevenTiedAt
set_option linter.unusedVariables false
set_option linter.unusedSimpArgs false
set_option maxRecDepth 100000
namespace Go.Proofs.YtlpnbkfcbamnbaaDoor.nestWalks
open Go.ChangeShapes Go.WideShapes Go.ChangeAt Go.RowKit L
theorem lifted (os : Os) (started : os.Started) (H : Type) (enc : TypeId × Value → H) :
    ReturnsInHanded {} Tryd.checked os 12 .any (fun w args => (Rows.nestWalksSpec.pre enc Tryd.prog Tryd.f12 [] false w args ∧ laidMetH Tryd.prog [("math/bits.deBruijn64tab", Rows.laid_math_bits_deBruijn64tab)] w) ∧ sizedMet enc Tryd.prog Tryd.f12 (OpenSpec.ofChange Rows.nestWalksSpec) false w args) (Rows.nestWalksSpec.post enc Tryd.prog Tryd.f12 false true false false) := by
  refine returnsInHanded_of_change_and (C := Tryd.checked) (X := fun w _ => laidMetH Tryd.prog [("math/bits.deBruijn64tab", Rows.laid_math_bits_deBruijn64tab)] w) (fun _ _ _ hh h => h.of_heap hh) own started (by kernel_rfl) Tryd.func12
    (ChangeSpec.witness_shaped (enc := enc) (C := Tryd.checked) (os := os) (X := fun w _ => laidMetH Tryd.prog [("math/bits.deBruijn64tab", Rows.laid_math_bits_deBruijn64tab)] w) false (World.doorLaid Tryd.prog 400 os) #[.slice none 0 0] 8 rfl (World.shaped_of_RefB (by kernel_rfl) (by kernel_rfl)) (by kernel_rfl) (by kernel_rfl) (by kernel_rfl) (door_met os _)) ?_
  intro W base args ds gs before hval0 hW _ _ hL _
  have hT := tab_of_laid hL
  have hval : ∀ (j : Nat) t v, Tryd.f12.params[j]? = some t → args[j]? = some v → Value.okWide Tryd.prog W .any base t v := hval0
  have hW' := hW
  obtain ⟨p, q, hA0, hV, rfl, hfz, hnd⟩ := hW
  have hA : DataW.TrodAll enc Tryd.prog W 0 (fun _ => true) true Tryd.f12.params.toList args.toList ds p := hA0
  rw [Tryd.params12] at hA hval
  obtain ⟨v0, vs0, d0, ds0, p0, q0, hargs, rfl, hp0, h0, r0⟩ := trodAll_cons hA
  obtain ⟨rfl, rfl, rfl⟩ := trodAll_nil r0
  obtain ⟨rfl, rfl⟩ := trodVars_none hV
  obtain rfl : args = #[v0] := by cases args; simp_all
  obtain ⟨A0, l0, c0, e0, hl0, hm0⟩ := opn_bools Tryd.underlying42 Tryd.underlying4 (hval 0 42 v0 rfl rfl) h0
  refine (show Calls Tryd.prog 12 #[v0] W (fun e w' => e = .returned (.bool true) ∧ Below W.heap.size W w') by
    rw [e0]
    exact lawNestWalks_any A0 c0 l0 W hl0 hT).mono fun e W' ⟨he, hb⟩ => ?_
  subst he
  refine ⟨_, rfl, law_post (f := Tryd.f12) laidOut rfl ?_ rfl Tryd.underlying4 hW' hb rfl rfl rfl⟩
  intro t ht
  rw [Tryd.params12] at ht
  simp only [List.mem_cons, List.not_mem_nil, or_false] at ht
  rcases ht with rfl
  · exact rd_bools

theorem row : Rows.NestWalksSaid :=
  OpenClaim.holds_of_wide 12 Tryd.f12 rfl rfl rfl rfl rfl rfl rfl ⟨rfl, rfl, rfl, rfl, rfl⟩ rfl rfl rfl rfl rfl (by kernel_rfl) Tryd.func12 (by kernel_rfl)
    (of_decide_eq_true (by kernel_rfl)) (by unfold Func.isWrapper; first | (rw [if_pos (by decide +kernel)]; kernel_rfl) | (rw [if_neg (by decide +kernel)]; exact ⟨rfl, rfl⟩))
    (fun os started H enc _ => lifted os started H enc)
theorem looked (j t : Nat) (ht : Tryd.f12.params[j]? = some t) : Tryd.prog.wantsStandIn t = false := by
  have hm := Array.mem_of_getElem? ht
  rw [Tryd.params12] at hm
  simp only [List.mem_toArray, List.mem_cons, List.not_mem_nil, or_false] at hm
  rcases hm with rfl
  · exact (show Tryd.prog.wantsStandIn 42 = false by kernel_rfl)
theorem proved : Rows.NestWalksCardSaid :=
  Claim7.holds_tied_plain_at .later [] [.data] true (true, "aae9caaf9cd7489a0c2ebbd8e111b4d997b508fbe257e33d501054e67179f7ce") false
    row (fun _ h => by cases h) (by kernel_rfl) (fun _ h => by cases h) nestWalks_row_tie rfl ⟨rfl, rfl⟩ (by kernel_rfl) rfl
    (fun f fn hf hfn => by
      obtain rfl : f = 12 := Option.some.inj ((show Tryd.prog.funcNamed "lacework/laceworklaw08.NestWalks" = some 12 by kernel_rfl).symm.trans hf) |>.symm
      obtain rfl : fn = Tryd.f12 := (Option.some.inj (Tryd.func12.symm.trans hfn)).symm
      exact ⟨by kernel_rfl, fun j t ht => looked j t ht⟩)
    (by kernel_rfl)
end Go.Proofs.YtlpnbkfcbamnbaaDoor.nestWalks
