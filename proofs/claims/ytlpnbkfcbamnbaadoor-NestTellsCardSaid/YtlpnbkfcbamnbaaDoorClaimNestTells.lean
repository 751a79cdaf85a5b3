/- The given card NestTellsCardSaid is proved: for every input the law NestTells returns true, and each argument reads as it did. No conditions. -/
import Derived.Test.YtlpnbkfcbamnbaaDoorLawNestE
import Derived.Test.YtlpnbkfcbamnbaaDoorOpen
import Derived.Test.YtlpnbkfcbamnbaaDoorOpenM
import Derived.Test.YtlpnbkfcbamnbaaDoorFactsM
import Derived.Test.YtlpnbkfcbamnbaaDoorFactsD
import Derived.Test.YtlpnbkfcbamnbaaDoorCards
import Derived.SevenTiedAt
set_option linter.unusedVariables false
set_option linter.unusedSimpArgs false
set_option maxRecDepth 100000
namespace Go.Proofs.YtlpnbkfcbamnbaaDoor.nestTells
open Go.ChangeShapes Go.WideShapes Go.ChangeAt Go.RowKit L
theorem lifted (os : Os) (started : os.Started) (H : Type) (enc : TypeId × Value → H) :
    ReturnsInHanded {} Tryd.checked os 13 .any (fun w args => (Rows.nestTellsSpec.pre enc Tryd.prog Tryd.f13 [] false w args ∧ laidMetH Tryd.prog [("math/bits.deBruijn64tab", Rows.laid_math_bits_deBruijn64tab)] w) ∧ sizedMet enc Tryd.prog Tryd.f13 (OpenSpec.ofChange Rows.nestTellsSpec) false w args) (Rows.nestTellsSpec.post enc Tryd.prog Tryd.f13 false true false false) := by
  refine returnsInHanded_of_change_and (C := Tryd.checked) (X := fun w _ => laidMetH Tryd.prog [("math/bits.deBruijn64tab", Rows.laid_math_bits_deBruijn64tab)] w) (fun _ _ _ hh h => h.of_heap hh) own started (by kernel_rfl) Tryd.func13
    (ChangeSpec.witness_shaped (enc := enc) (C := Tryd.checked) (os := os) (X := fun w _ => laidMetH Tryd.prog [("math/bits.deBruijn64tab", Rows.laid_math_bits_deBruijn64tab)] w) false (World.doorLaid Tryd.prog 400 os) #[.slice none 0 0, .slice none 0 0, .int .i64 0] 8 rfl (World.shaped_of_RefB (by kernel_rfl) (by kernel_rfl)) (by kernel_rfl) (by kernel_rfl) (by kernel_rfl) (door_met os _)) ?_
  intro W base args ds gs before hval0 hW _ _ hL _
  have hT := tab_of_laid hL
  have hval : ∀ (j : Nat) t v, Tryd.f13.params[j]? = some t → args[j]? = some v → Value.okWide Tryd.prog W .any base t v := hval0
  have hW' := hW
  obtain ⟨p, q, hA0, hV, rfl, hfz, hnd⟩ := hW
  have hA : DataW.TrodAll enc Tryd.prog W 0 (fun _ => true) true Tryd.f13.params.toList args.toList ds p := hA0
  rw [Tryd.params13] at hA hval
  obtain ⟨v0, vs0, d0, ds0, p0, q0, hargs, rfl, hp0, h0, r0⟩ := trodAll_cons hA
  obtain ⟨v1, vs1, d1, ds1, p1, q1, rfl, rfl, rfl, h1, r1⟩ := trodAll_cons r0
  obtain ⟨v2, vs2, d2, ds2, p2, q2, rfl, rfl, rfl, h2, r2⟩ := trodAll_cons r1
  obtain ⟨rfl, rfl, rfl⟩ := trodAll_nil r2
  obtain ⟨rfl, rfl⟩ := trodVars_none hV
  obtain rfl : args = #[v0, v1, v2] := by cases args; simp_all
  obtain ⟨A0, l0, c0, e0, hl0, hm0, hp10⟩ := opn_pieces Tryd.underlying58 Tryd.underlying103 (by kernel_rfl) Tryd.underlying4 Tryd.underlying55 (by kernel_rfl) (hval 0 58 v0 rfl rfl) h0
  obtain ⟨A1, l1, c1, e1, hl1, hm1, hp11⟩ := opn_ints Tryd.underlying22 Tryd.underlying3 (hval 1 22 v1 rfl rfl) h1
  obtain ⟨a2, e2, _, _, w2⟩ := open_int Tryd.underlying3 (hval 2 3 v2 rfl rfl) h2
  have bd2 := bounds_i64 w2
  refine (show Calls Tryd.prog 13 #[v0, v1, v2] W (fun e w' => e = .returned (.bool true) ∧ Below W.heap.size W w') by
    rw [e0, e1, e2]
    exact lawNestTells_any A0 c0 l0 A1 c1 l1 a2 W hl0 hp10 hm0 hl1 hT).mono fun e W' ⟨he, hb⟩ => ?_
  subst he
  refine ⟨_, rfl, law_post (f := Tryd.f13) laidOut rfl ?_ rfl Tryd.underlying4 hW' hb rfl rfl rfl⟩
  intro t ht
  rw [Tryd.params13] at ht
  simp only [List.mem_cons, List.not_mem_nil, or_false] at ht
  rcases ht with rfl | rfl | rfl
  · exact rd_pieces
  · exact rd_ints
  · exact rd_i64

theorem row : Rows.NestTellsSaid :=
  OpenClaim.holds_of_wide 13 Tryd.f13 rfl rfl rfl rfl rfl rfl rfl ⟨rfl, rfl, rfl, rfl, rfl⟩ rfl rfl rfl rfl rfl (by kernel_rfl) Tryd.func13 (by kernel_rfl)
    (of_decide_eq_true (by kernel_rfl)) (by unfold Func.isWrapper; first | (rw [if_pos (by decide +kernel)]; kernel_rfl) | (rw [if_neg (by decide +kernel)]; exact ⟨rfl, rfl⟩))
    (fun os started H enc _ => lifted os started H enc)
theorem looked (j t : Nat) (ht : Tryd.f13.params[j]? = some t) : Tryd.prog.wantsStandIn t = false := by
  have hm := Array.mem_of_getElem? ht
  rw [Tryd.params13] at hm
  simp only [List.mem_toArray, List.mem_cons, List.not_mem_nil, or_false] at hm
  rcases hm with rfl | rfl | rfl
  · exact (show Tryd.prog.wantsStandIn 58 = false by kernel_rfl)
  · exact (show Tryd.prog.wantsStandIn 22 = false by kernel_rfl)
  · exact (show Tryd.prog.wantsStandIn 3 = false by kernel_rfl)
theorem proved : Rows.NestTellsCardSaid :=
  Claim7.holds_tied_plain_at .later [] [.data] true (true, "aae9caaf9cd7489a0c2ebbd8e111b4d997b508fbe257e33d501054e67179f7ce") false
    row (fun _ h => by cases h) (by kernel_rfl) (fun _ h => by cases h) nestTells_row_tie rfl ⟨rfl, rfl⟩ (by kernel_rfl) rfl
    (fun f fn hf hfn => by
      obtain rfl : f = 13 := Option.some.inj ((show Tryd.prog.funcNamed "lacework/laceworklaw08.NestTells" = some 13 by kernel_rfl).symm.trans hf) |>.symm
      obtain rfl : fn = Tryd.f13 := (Option.some.inj (Tryd.func13.symm.trans hfn)).symm
      exact ⟨by kernel_rfl, fun j t ht => looked j t ht⟩)
    (by kernel_rfl)
end Go.Proofs.YtlpnbkfcbamnbaaDoor.nestTells
