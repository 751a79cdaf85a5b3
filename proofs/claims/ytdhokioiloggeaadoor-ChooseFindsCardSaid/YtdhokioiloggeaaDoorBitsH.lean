/- Walks: a row's fields, words, parts and bytes. -/
import Derived.Test.YtdhokioiloggeaaDoorBitsG
import Derived.Test.YtdhokioiloggeaaDoorMath4
set_option linter.unusedVariables false
set_option linter.unusedSimpArgs false
set_option maxRecDepth 100000
namespace Go.Proofs.YtdhokioiloggeaaDoor
open Go.RowKit L

theorem shut_bytes (l : List UInt8) : Ending.returned (.string ⟨l.toArray⟩) = .returned (.string ⟨l.toArray⟩) := rfl

set_option maxHeartbeats 400000 in
theorem rword_any (g : Nat) (A : Option Addr) (c : Nat) (bs : List Bool) (i : Int) (w : World) (hr : RowAt w g A c bs) :
    Calls Tryd.prog 48 #[.pointer (some ⟨g, 0, none⟩), .int .i64 i] w fun e w' => e = .returned (.int .u64 (wordI bs i : Nat)) ∧ w = w' := by
  obtain ⟨c0, c1⟩ := hr.cells
  have hsm := hr.small
  rcases Int.lt_or_le i 0 with h1 | h1
  · rw [show wordI bs i = 0 from by unfold wordI; rw [if_pos h1]]
    go_enter Tryd.func48, Tryd.ntmps48
    go_wp2
    go_ret
    exact ⟨rfl, rfl⟩
  · obtain ⟨k, rfl⟩ := Int.eq_ofNat_of_zero_le h1
    rw [wordI_nat]
    rcases Nat.lt_or_ge k (nwords bs.length) with h2 | h2
    · have q0 : (u64s (words bs))[k]? = some (.int .u64 (wordAt bs k : Nat)) := by rw [u64s, List.getElem?_map, words_get _ h2]; rfl
      have hlst := hr.lst
      obtain ⟨ab, ao, rfl, had, hcl⟩ := hlst.lit (by have := (List.getElem?_eq_some_iff.1 q0).1; omega)
      have wc := hcl _ _ q0
      have h3 : (k : Int) < (nwords bs.length : Int) := by omega
      clear hcl q0 hlst hr
      go_enter Tryd.func48, Tryd.ntmps48
      go_wp2
      go_ret
      exact ⟨rfl, rfl⟩
    · have e : wordAt bs k = 0 := by
        unfold wordAt
        rw [List.drop_eq_nil_of_le (by unfold nwords at h2; omega)]; rfl
      rw [e]
      have h3 : (nwords bs.length : Int) ≤ (k : Int) := by omega
      go_enter Tryd.func48, Tryd.ntmps48
      go_wp2
      go_ret
      exact ⟨rfl, rfl⟩

/-- A part's ends. -/
def cutLo (n : Nat) (a : Int) : Nat := (min (max a 0) n).toNat
def cutHi (n : Nat) (a b : Int) : Nat := (min (max b (cutLo n a : Nat)) n).toNat
theorem cut_bd (n : Nat) (a b : Int) : cutLo n a ≤ cutHi n a b ∧ cutHi n a b ≤ n := by unfold cutHi cutLo; omega

end Go.Proofs.YtdhokioiloggeaaDoor
