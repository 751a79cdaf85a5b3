/- The given card ChooseLongCardSaid is proved: for every input the law ChooseLong returns true, and each argument reads as it did. No conditions. -/
import Derived.Test.YtdhokioiloggeaaDoorLawChooseC
import Derived.Test.YtdhokioiloggeaaDoorOpen
import Derived.Test.YtdhokioiloggeaaDoorFactsD
import Derived.Test.YtdhokioiloggeaaDoorCards
import Derived.SevenTiedAt
set_option linter.unusedVariables false
set_option linter.unusedSimpArgs false
set_option maxRecDepth 100000
namespace Go.Proofs.YtdhokioiloggeaaDoor.chooseLong
open Go.ChangeShapes Go.WideShapes Go.ChangeAt Go.RowKit L
theorem lifted (os : Os) (started : os.Started) (H : Type) (enc : TypeId × Value → H) :
    ReturnsInHanded {} Tryd.checked os 9 .any (fun w args => (Rows.chooseLongSpec.pre enc Tryd.prog Tryd.f9 [] false w args ∧ laidMetH Tryd.prog [("math/bits.deBruijn64tab", Rows.laid_math_bits_deBruijn64tab)] w) ∧ sizedMet enc Tryd.prog Tryd.f9 (OpenSpec.ofChange Rows.chooseLongSpec) false w args) (Rows.chooseLongSpec.post enc Tryd.prog Tryd.f9 false true false false) := by
  refine returnsInHanded_of_change_and (C := Tryd.checked) (X := fun w _ => laidMetH Tryd.prog [("math/bits.deBruijn64tab", Rows.laid_math_bits_deBruijn64tab)] w) (fun _ _ _ hh h => h.of_heap hh) own started (by kernel_rfl) Tryd.func9
    (ChangeSpec.witness_shaped (enc := enc) (C := Tryd.checked) (os := os) (X := fun w _ => laidMetH Tryd.prog [("math/bits.deBruijn64tab", Rows.laid_math_bits_deBruijn64tab)] w) false (World.doorLaid Tryd.prog 400 os) #[.int .u16 0, .int .u16 0, .int .u16 0] 8 rfl (World.shaped_of_RefB (by kernel_rfl) (by kernel_rfl)) (by kernel_rfl) (by kernel_rfl) (by kernel_rfl) (door_met os _)) ?_
  intro W base args ds gs before hval0 hW _ _ hL _
  have hT := tab_of_laid hL
  have hval : ∀ (j : Nat) t v, Tryd.f9.params[j]? = some t → args[j]? = some v → Value.okWide Tryd.prog W .any base t v := hval0
  have hW' := hW
  obtain ⟨p, q, hA0, hV, rfl, hfz, hnd⟩ := hW
  have hA : DataW.TrodAll enc Tryd.prog W 0 (fun _ => true) true Tryd.f9.params.toList args.toList ds p := hA0
  rw [Tryd.params9] at hA hval
  obtain ⟨v0, vs0, d0, ds0, p0, q0, hargs, rfl, hp0, h0, r0⟩ := trodAll_cons hA
  obtain ⟨v1, vs1, d1, ds1, p1, q1, rfl, rfl, rfl, h1, r1⟩ := trodAll_cons r0
  obtain ⟨v2, vs2, d2, ds2, p2, q2, rfl, rfl, rfl, h2, r2⟩ := trodAll_cons r1
  obtain ⟨rfl, rfl, rfl⟩ := trodAll_nil r2
  obtain ⟨rfl, rfl⟩ := trodVars_none hV
  obtain rfl : args = #[v0, v1, v2] := by cases args; simp_all
  obtain ⟨a0, e0, _, _, w0⟩ := open_int Tryd.underlying38 (hval 0 38 v0 rfl rfl) h0
  have bd0 := bounds_u16 w0
  obtain ⟨a1, e1, _, _, w1⟩ := open_int Tryd.underlying38 (hval 1 38 v1 rfl rfl) h1
  have bd1 := bounds_u16 w1
  obtain ⟨a2, e2, _, _, w2⟩ := open_int Tryd.underlying38 (hval 2 38 v2 rfl rfl) h2
  have bd2 := bounds_u16 w2
  refine (show Calls Tryd.prog 9 #[v0, v1, v2] W (fun e w' => e = .returned (.bool true) ∧ Below W.heap.size W w') by
    rw [e0, e1, e2]
    exact lawChooseLong_any a0 a1 a2 W bd0.1 bd0.2 bd1.1 bd1.2 bd2.1 bd2.2 hT).mono fun e W' ⟨he, hb⟩ => ?_
  subst he
  refine ⟨_, rfl, law_post (f := Tryd.f9) laidOut rfl ?_ rfl Tryd.underlying4 hW' hb rfl rfl rfl⟩
  intro t ht
  rw [Tryd.params9] at ht
  simp only [List.mem_cons, List.not_mem_nil, or_false] at ht
  rcases ht with rfl | rfl | rfl
  · exact rd_u16
  · exact rd_u16
  · exact rd_u16

theorem row : Rows.ChooseLongSaid :=
  OpenClaim.holds_of_wide 9 Tryd.f9 rfl rfl rfl rfl rfl rfl rfl ⟨rfl, rfl, rfl, rfl, rfl⟩ rfl rfl rfl rfl rfl (by kernel_rfl) Tryd.func9 (by kernel_rfl)
    (of_decide_eq_true (by kernel_rfl)) (by unfold Func.isWrapper; first | (rw [if_pos (by decide +kernel)]; kernel_rfl) | (rw [if_neg (by decide +kernel)]; exact ⟨rfl, rfl⟩))
    (fun os started H enc _ => lifted os started H enc)
theorem looked (j t : Nat) (ht : Tryd.f9.params[j]? = some t) : Tryd.prog.wantsStandIn t = false := by
  have hm := Array.mem_of_getElem? ht
  rw [Tryd.params9] at hm
  simp only [List.mem_toArray, List.mem_cons, List.not_mem_nil, or_false] at hm
  rcases hm with rfl | rfl | rfl
  · exact (show Tryd.prog.wantsStandIn 38 = false by kernel_rfl)
  · exact (show Tryd.prog.wantsStandIn 38 = false by kernel_rfl)
  · exact (show Tryd.prog.wantsStandIn 38 = false by kernel_rfl)
theorem proved : Rows.ChooseLongCardSaid :=
  Claim7.holds_tied_plain_at .later [] [.data] true (true, "b015993b8b9a0db179abf46dcb274d7256ace873e365c06dd267ea2b1da79119") false
    row (fun _ h => by cases h) (by kernel_rfl) (fun _ h => by cases h) chooseLong_row_tie rfl ⟨rfl, rfl⟩ (by kernel_rfl) rfl
    (fun f fn hf hfn => by
      obtain rfl : f = 9 := Option.some.inj ((show Tryd.prog.funcNamed "lacework/laceworklaw04.ChooseLong" = some 9 by kernel_rfl).symm.trans hf) |>.symm
      obtain rfl : fn = Tryd.f9 := (Option.some.inj (Tryd.func9.symm.trans hfn)).symm
      exact ⟨by kernel_rfl, fun j t ht => looked j t ht⟩)
    (by kernel_rfl)
end Go.Proofs.YtdhokioiloggeaaDoor.chooseLong
