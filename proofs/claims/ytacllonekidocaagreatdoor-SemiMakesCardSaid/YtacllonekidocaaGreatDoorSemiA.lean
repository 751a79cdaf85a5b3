/- Walks: the index of a record (semi): what is wrong with it, the row of its marks' bits. -/
import Derived.Test.YtacllonekidocaaGreatDoorMarkP

import Derived.Test.YtacllonekidocaaGreatDoorScanQ
import Derived.Test.YtacllonekidocaaGreatDoorNestB
import Derived.Test.YtacllonekidocaaGreatDoorFanoQ
set_option linter.unusedVariables false
set_option linter.unusedSimpArgs false
set_option maxRecDepth 100000
namespace Go.Proofs.YtacllonekidocaaGreatDoor
open Go.RowKit Go.Shelf L

/-- What is wrong with a record. -/
def L.lookN (l : List Nat) : Nat := if (verd l 4096).1 = 4 then 4 else if (verd l 4096).1 = 3 then 3 else if (verd l 4096).1 = 2 then 5 else 0
theorem L.look_text {l : List Nat} (h : lookN l = 0) : Text l 4096 ∧ l.length ≤ 65536 := by
  unfold lookN verd at h
  by_cases h1 : 65536 < l.length
  · simp [h1] at h
  · rw [if_neg h1] at h
    by_cases h2 : (goA L.start l 0).2 = l.length ∧ fin (goA L.start l 0).1 = true
    · rw [if_pos h2] at h
      by_cases h3 : 4096 < (goA L.start l 0).1.most
      · rw [if_pos h3] at h; simp at h
      · exact ⟨⟨h2.1, h2.2, by omega⟩, by omega⟩
    · rw [if_neg h2] at h; simp at h
theorem L.text_look {l : List Nat} (h : Text l 4096) (hl : l.length ≤ 65536) : lookN l = 0 := by
  have hv : (verd l 4096).1 = 1 := by
    unfold verd
    rw [if_neg (show ¬ 65536 < l.length by omega), if_pos (show (goA L.start l 0).2 = l.length ∧ fin (goA L.start l 0).1 = true from ⟨h.1, h.2.1⟩), if_neg (show ¬ 4096 < (goA L.start l 0).1.most by have := h.2.2; omega)]
  unfold lookN
  rw [hv]; rfl
theorem L.verd_ways (l : List Nat) : ((verd l 4096).1 = 4 ∧ lookN l = 4) ∨ ((verd l 4096).1 = 3 ∧ lookN l = 3) ∨ ((verd l 4096).1 = 2 ∧ lookN l = 5) ∨ ((verd l 4096).1 = 1 ∧ lookN l = 0) := by
  have h : (verd l 4096).1 = 4 ∨ (verd l 4096).1 = 3 ∨ (verd l 4096).1 = 2 ∨ (verd l 4096).1 = 1 := by
    unfold verd
    split
    · left; rfl
    split
    · split
      · right; right; left; rfl
      · right; right; right; rfl
    · right; left; rfl
  unfold lookN
  rcases h with h | h | h | h <;> rw [h] <;> simp

set_option maxHeartbeats 400000 in
theorem look_any (s : ByteArray) (w : World) : Calls Tryz.prog 23 #[.string s] w fun e w' => e = .returned (.int .i64 (lookN (nb s) : Nat)) ∧ Below w.heap.size w w' := by
  have HV := hid (valid_any s 4096 w (by omega) (by omega))
  rcases verd_ways (nb s) with ⟨h1, h2⟩ | ⟨h1, h2⟩ | ⟨h1, h2⟩ | ⟨h1, h2⟩
  all_goals
    rw [h2]
    rw [h1] at HV
    clear h1 h2
    go_enter Tryz.func23, Tryz.ntmps23
    go_wp2_with fail
    refine (HV.out).mono ?_
    rintro e w1 ⟨rfl, hB1⟩
    go_wp2_with fail
    go_ret
    exact ⟨rfl, hB1⟩

set_option maxHeartbeats 400000 in
theorem semiRow_any (A : Option Addr) (c : Nat) (l : List Bool) (w : World) (hl : Lst w A (bools l)) (hn : l.length ≤ 4294967296) :
    Calls Tryz.prog 27 #[.slice A l.length c] w (NewRow w l) := by
  have hb0 := BuilderAt.new_at w w.heap.size w.heap.size rfl
  go_enter Tryz.func27, Tryz.ntmps27
  go_wp2_with fail
  go_loopw [8] (fun i wr => ∃ (k : Nat) (v : Value), k ≤ l.length ∧ i = .int .i64 k ∧ BuilderAt wr w.heap.size w.heap.size v (l.take k) ∧ Below w.heap.size w wr) (fun i _ => l.length - (intOf i).toNat)
  case atStart => exact ⟨0, _, by omega, rfl, hb0, (Below.refl _ _).alloc (Nat.le_refl _) _⟩
  case round =>
    obtain ⟨k, v, hk, rfl, hb, hB⟩ := hrel
    have hsz := hB.size
    clear hb0
    rcases Nat.lt_or_ge k l.length with hlt | hge
    · have q0 := bools_get l hlt
      obtain ⟨ab, ao, rfl, had, hcl⟩ := hl.lit (by rw [bools_length]; omega)
      have wc := (hB.cell (p := ⟨ab, ao + k, none⟩) had).trans (hcl _ _ q0)
      have hki : (k : Int) < (l.length : Int) := by omega
      have hk0 : (0 : Int) ≤ (k : Int) := by omega
      have H := hid (show l.take (k + 1) = l.take k ++ [bitAt l k] by
        rw [List.take_succ_eq_append_getElem hlt]
        have := bitAt_get l k hlt
        rw [List.getElem?_eq_getElem hlt] at this
        injection this with this
        rw [this])
      have hlk : (l.take k).length + 1 ≤ 4294967296 := by rw [List.length_take]; omega
      clear q0 hcl
      go_wp2_with fail
      refine (bit_any _ w.heap.size w.heap.size v (l.take k) _ hlk hb hsz).mono ?_
      rintro e w1 ⟨rfl, v1, hb1, hat1, ho1⟩
      have hB1 := hB.trans (putDone_below hb (Nat.le_refl _) (Nat.le_refl _) hsz ho1)
      rw [← H.out] at hb1
      go_wp2_with fail
      go_roundw
      case rel => exact ⟨k + 1, v1, by omega, by go_num, hb1, hB1⟩
      case measure => simp [intOf]; omega
    · obtain rfl : k = l.length := by omega
      have hkn : ¬ ((l.length : Int) < (l.length : Int)) := by omega
      rw [List.take_length] at hb
      go_wp2_with fail
      refine (row_any _ _ _ _ _ hb hn).mono ?_
      rintro e w2 ⟨g2, A2, c2, rfl, hr2, h1, h2, hB2⟩
      go_wp2_with fail
      go_ret
      exact ⟨g2, A2, c2, rfl, hr2, by omega, fun ad h => by have := h2 ad h; omega, hB.trans (hB2.mono hsz)⟩
end Go.Proofs.YtacllonekidocaaGreatDoor
