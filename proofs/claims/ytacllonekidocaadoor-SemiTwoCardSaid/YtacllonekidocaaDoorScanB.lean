/- Walks: the scanner's small steps: the next byte, a bracket closed, blanks, a word, digits of units, an escape, digits. -/
import Derived.Test.YtacllonekidocaaDoorScanA
import Derived.Test.YtacllonekidocaaDoorAutoB
import Derived.Test.YtacllonekidocaaDoorBase
import Derived.Test.YtacllonekidocaaDoorShelf
set_option linter.unusedVariables false
set_option linter.unusedSimpArgs false
set_option maxRecDepth 100000
namespace Go.Proofs.YtacllonekidocaaDoor
open Go.RowKit Go.Shelf L

/-- A text's bytes. -/
def L.nb (s : ByteArray) : List Nat := s.data.toList.map UInt8.toNat
theorem L.nb_length (s : ByteArray) : (nb s).length = s.size := by simp [nb]
theorem L.at_nb (s : ByteArray) (i : Nat) (h : i < s.size) : at_ (nb s) i = (s[i]).toNat := by
  unfold at_ nb
  rw [List.getElem?_map]
  have : s.data.toList[i]? = some s[i] := by
    rw [List.getElem?_eq_getElem (by simpa using h)]
    simp; rfl
  rw [this]; rfl
theorem L.at_out {l : List Nat} {i : Nat} (h : l.length ≤ i) : at_ l i = 0 := by unfold at_; rw [List.getElem?_eq_none h]; rfl
theorem L.at_nb_lt (s : ByteArray) (i : Nat) : at_ (nb s) i < 256 := by
  by_cases h : i < s.size
  · rw [at_nb s i h]; exact UInt8.toNat_lt _
  · rw [at_out (by rw [nb_length]; omega)]; omega

/-- The scanner's cells. -/
def SC (s : ByteArray) (k : Nat) (v : Value) (d m : Nat) : Array Value := #[.string s, .int .i64 (k : Nat), v, .int .i64 (d : Nat), .int .i64 (m : Nat)]
def ScAt (w : World) (g : Nat) (s : ByteArray) (k : Nat) (v : Value) (d m : Nat) : Prop := BlkIs w g 82 (SC s k v d m)
section
variable {w w' : World} {g : Nat} {s : ByteArray} {k : Nat} {v : Value} {d m : Nat}
theorem ScAt.c0 (h : ScAt w g s k v d m) : w.cell? ⟨g, 0, none⟩ = some (.string s) := BlkIs.cell h 0
theorem ScAt.c1 (h : ScAt w g s k v d m) : w.cell? ⟨g, 1, none⟩ = some (.int .i64 (k : Nat)) := BlkIs.cell h 1
theorem ScAt.c2 (h : ScAt w g s k v d m) : w.cell? ⟨g, 2, none⟩ = some v := BlkIs.cell h 2
theorem ScAt.c3 (h : ScAt w g s k v d m) : w.cell? ⟨g, 3, none⟩ = some (.int .i64 (d : Nat)) := BlkIs.cell h 3
theorem ScAt.c4 (h : ScAt w g s k v d m) : w.cell? ⟨g, 4, none⟩ = some (.int .i64 (m : Nat)) := BlkIs.cell h 4
theorem ScAt.fr (h : ScAt w g s k v d m) (i : Nat) : w.frozen? ⟨g, i, none⟩ = false := BlkIs.frozen h i
theorem ScAt.at' (h : ScAt w g s k v d m) (k' : Nat) (i : Int) (hi : i = (k' : Nat)) : ScAt (w.setCell ⟨g, 1, none⟩ (.int .i64 i)) g s k' v d m := by subst hi; exact BlkIs.put h 1 _
theorem ScAt.drewN (h : ScAt w g s k v d m) (n : Nat) : ScAt (w.drewN n) g s k v d m := h
end
def posOf (w : World) (g : Nat) : Nat := match w.cell? ⟨g, 1, none⟩ with | some (.int _ i) => i.toNat | _ => 0
theorem ScAt.pos {w : World} {g : Nat} {s : ByteArray} {k : Nat} {v : Value} {d m : Nat} (h : ScAt w g s k v d m) : posOf w g = k := by unfold posOf; rw [h.c1]; simp

set_option maxHeartbeats 1000000 in
theorem snext_any (g : Nat) (s : ByteArray) (k : Nat) (v : Value) (d m : Nat) (w : World) (hb : ScAt w g s k v d m) :
    Calls Tryd.prog 51 #[.pointer (some ⟨g, 0, none⟩)] w fun e w' => e = .returned (.int .u8 (at_ (nb s) k : Nat)) ∧ ∃ n, w' = w.drewN n := by
  have c0 := hb.c0
  have c1 := hb.c1
  rcases Nat.lt_or_ge k s.size with h | h
  · have HA := hid (at_nb s k h)
    have hi : (k : Int) < (s.size : Int) := by omega
    go_enter Tryd.func51, Tryd.ntmps51
    go_wp2
    go_quiet (fail)
    go_wp2
    go_quiet (fail)
    go_wp2
    go_ret
    exact ⟨by rw [HA.out]; rfl, _, World.drewN_drewN _ _ _⟩
  · have HA := hid (at_out (l := nb s) (i := k) (by rw [nb_length]; exact h))
    have hi : ¬ ((k : Int) < (s.size : Int)) := by omega
    go_enter Tryd.func51, Tryd.ntmps51
    go_wp2
    go_quiet (fail)
    go_wp2
    go_ret
    exact ⟨by rw [HA.out]; rfl, _, rfl⟩

set_option maxHeartbeats 2000000 in
theorem shex_any (b : Nat) (w : World) (hb : b < 256) :
    Calls Tryd.prog 88 #[.int .u8 (b : Nat)] w fun e w' => e = .returned (.bool (hexd b)) ∧ w = w' := by
  have h6 : ∃ b1 b2 b3 b4 b5 b6 : Bool, (decide ((b : Int) ≥ 48) = b1 ∧ decide ((b : Int) ≤ 57) = b2 ∧ decide ((b : Int) ≥ 97) = b3 ∧ decide ((b : Int) ≤ 102) = b4 ∧ decide ((b : Int) ≥ 65) = b5 ∧ decide ((b : Int) ≤ 70) = b6) ∧
      [(false, true, false, true, false, true), (true, true, false, true, false, true), (true, false, false, true, false, true), (true, false, false, true, true, true), (true, false, false, true, true, false), (true, false, true, true, true, false), (true, false, true, false, true, false)].contains (b1, b2, b3, b4, b5, b6) = true ∧
      hexd b = ((b1 && b2) || (b3 && b4) || (b5 && b6)) := by
    refine ⟨_, _, _, _, _, _, ⟨rfl, rfl, rfl, rfl, rfl, rfl⟩, ?_, ?_⟩
    · simp only [List.contains_eq_mem, List.mem_cons, Prod.mk.injEq, decide_eq_true_eq, decide_eq_false_iff_not, List.not_mem_nil, or_false]
      omega
    · unfold hexd
      congr 1
      · congr 1
        · congr 1 <;> (apply Bool.eq_iff_iff.2; simp only [decide_eq_true_eq]; omega)
        · congr 1 <;> (apply Bool.eq_iff_iff.2; simp only [decide_eq_true_eq]; omega)
      · congr 1 <;> (apply Bool.eq_iff_iff.2; simp only [decide_eq_true_eq]; omega)
  obtain ⟨b1, b2, b3, b4, b5, b6, ⟨h1, h2, h3, h4, h5, h6⟩, hm, hR⟩ := h6
  rw [hR]
  clear hR
  simp only [List.contains_eq_mem, List.mem_cons, Prod.mk.injEq, decide_eq_true_eq, List.not_mem_nil, or_false] at hm
  rcases hm with ⟨rfl, rfl, rfl, rfl, rfl, rfl⟩ | ⟨rfl, rfl, rfl, rfl, rfl, rfl⟩ | ⟨rfl, rfl, rfl, rfl, rfl, rfl⟩ | ⟨rfl, rfl, rfl, rfl, rfl, rfl⟩ | ⟨rfl, rfl, rfl, rfl, rfl, rfl⟩ | ⟨rfl, rfl, rfl, rfl, rfl, rfl⟩ | ⟨rfl, rfl, rfl, rfl, rfl, rfl⟩
  all_goals
    go_enter Tryd.func88, Tryd.ntmps88
    go_wp2
    go_ret
    exact ⟨rfl, rfl⟩

end Go.Proofs.YtacllonekidocaaDoor
