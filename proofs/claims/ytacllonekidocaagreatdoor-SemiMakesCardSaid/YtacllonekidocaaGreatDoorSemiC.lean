/- Walks: what an index tells (semi): marks, nest. -/
import Derived.Test.YtacllonekidocaaGreatDoorSemiB
import Derived.Test.YtacllonekidocaaGreatDoorMathsB
set_option linter.unusedVariables false
set_option linter.unusedSimpArgs false
set_option maxRecDepth 100000
namespace Go.Proofs.YtacllonekidocaaGreatDoor
open Go.RowKit Go.Shelf L

theorem L.bal_kc {bs : List Bool} (h : bal (bitAt bs) bs.length = true) : 2 * kc true bs bs.length = bs.length := by
  have h1 := e0_cP (bitAt bs) bs.length
  rw [(Bal.of h).all] at h1
  rw [kc_cP bs _ (Nat.le_refl _)]; omega
theorem L.text_nodes {l : List Nat} {deep : Nat} (h : Text l deep) : kc true (parens l) (parens l).length = (places l).length := by
  have h1 := bal_kc (text_bal h.1 h.2.1)
  have h2 := parens_length l
  rw [places_length]
  omega

theorem semiMarks_any (g : Nat) (s : ByteArray) (w : World) (hi : IdxAt w g s) :
    Calls Tryz.prog 9 #[.pointer (some ⟨g, 0, none⟩)] w fun e w' => e = .returned (.int .i64 ((places (nb s)).length : Nat)) ∧ w = w' := by
  obtain ⟨q, x, t, Ax, cx, h1, h2, h3, h4⟩ := hi
  have k0 := h1.cell 0
  have HL := hid (seqLen_any q (places (nb s)) (bndN (nb s)) w h2)
  clear h1 h2 h3 h4
  generalize places (nb s) = P at *
  go_enter Tryz.func9, Tryz.ntmps9
  go_wp2_with fail
  refine (HL.out).mono ?_
  rintro e w' ⟨rfl, rfl⟩
  go_wp2_with fail
  go_ret
  exact ⟨rfl, rfl⟩
set_option maxHeartbeats 400000 in
theorem semiMark_in (g : Nat) (s : ByteArray) (i : Nat) (w : World) (hi : IdxAt w g s) (hT : Tab w) (hs : (nb s).length ≤ 65536) (hm : (places (nb s)).length ≤ 10000) (hk : i < (places (nb s)).length) :
    Calls Tryz.prog 10 #[.pointer (some ⟨g, 0, none⟩), .int .i64 (i : Nat)] w fun e w' => e = .returned (.tuple #[.int .i64 ((places (nb s))[i] : Nat), .int .i64 0]) ∧ Below w.heap.size w w' := by
  obtain ⟨q, x, t, Ax, cx, h1, h2, h3, h4⟩ := hi
  have k0 := h1.cell 0
  have HL := hid (sGet_in q (places (nb s)) (bndN (nb s)) i w h2 hT (places_right (by omega)) (places_few hs hm) hk)
  clear h1 h2 h3 h4
  generalize (places (nb s))[i] = v at *
  go_enter Tryz.func10, Tryz.ntmps10
  go_wp2_with fail
  refine (HL.out).mono ?_
  rintro e w' ⟨rfl, hB⟩
  go_wp2_with fail
  go_ret2
  exact ⟨rfl, hB⟩
theorem semiNest_any (g : Nat) (s : ByteArray) (w : World) (hi : IdxAt w g s) :
    Calls Tryz.prog 14 #[.pointer (some ⟨g, 0, none⟩)] w fun e w' => ∃ t, e = .returned (.pointer (some ⟨t, 0, none⟩)) ∧ NestAt w t (parens (nb s)) ∧ w = w' := by
  obtain ⟨q, x, t, Ax, cx, h1, h2, h3, h4⟩ := hi
  have k2 := h1.cell 2
  have H4 := hid h4
  clear h1 h2 h3 h4
  go_enter Tryz.func14, Tryz.ntmps14
  go_wp2_with fail
  go_ret
  exact ⟨t, rfl, H4.out, rfl⟩
end Go.Proofs.YtacllonekidocaaGreatDoor
