/- Walks: the reference's less, next, and the one ahead. -/
import Derived.Test.YtlpnbkfcbamnbaaDoorLawFanoC
set_option linter.unusedVariables false
set_option linter.unusedSimpArgs false
set_option maxRecDepth 100000
namespace Go.Proofs.YtlpnbkfcbamnbaaDoor
open Go.RowKit Go.Shelf L

theorem L.clz_unique {l : List Nat} (h : Ris l) {x : Int} {i : Nat} (hi : i ≤ l.length) (h1 : ∀ j (hj : j < i), (l[j]'(by omega) : Int) < x) (h2 : ∀ hi' : i < l.length, x ≤ (l[i] : Int)) : clz l x = i := by
  refine cl_unique h hi (fun j hj => ?_) (fun hi' => ?_)
  · have := h1 j hj; omega
  · have := h2 hi'; omega
theorem L.clz_count (l : List Nat) (x : Int) : clz l x = l.countP fun y : Nat => decide ((y : Int) < x) := by
  unfold clz cl
  exact List.countP_congr (fun y _ => by simp <;> omega)

def oF (o : Option Nat) : Nat := o.getD 0
def oB (o : Option Nat) : Bool := o.isSome
theorem oN_eq (o : Option Nat) : oN o = .tuple #[.int .i64 (oF o : Nat), .bool (oB o)] := by cases o <;> rfl
theorem hasN_eq (l : List Nat) (x : Int) : hasN l x = (oB (nxt l x) && ((oF (nxt l x) : Int) == x)) := by
  unfold hasN
  cases nxt l x with
  | none => rfl
  | some y =>
    simp only [oB, oF, Option.isSome, Option.getD, Bool.true_and]
    rw [Bool.eq_iff_iff]; simp; omega

set_option maxHeartbeats 1000000 in
theorem refNext_any (A : Option Addr) (c : Nat) (l : List Nat) (x : Int) (w : World) (hl : Lst w A (natCells l)) (hn : l.length ≤ 1000000) (hr : Ris l) :
    Calls Tryd.prog 25 #[.slice A l.length c, .int .i64 x] w fun e w' => e = .returned (oN (nxt l x)) ∧ w = w' := by
  go_enter Tryd.func25, Tryd.ntmps25
  go_wp2_with fail
  go_loop [6] (fun iv => ∃ (i : Nat), iv = .int .i64 (i : Nat) ∧ i ≤ l.length ∧ ∀ j (hj : j < i), (hj2 : j < l.length) → (l[j] : Int) < x) (fun iv => l.length - (intOf iv).toNat)
  case atStart => exact ⟨0, rfl, by omega, fun j hj => by omega⟩
  case round =>
    obtain ⟨i, rfl, hi, hall⟩ := hrel
    rcases Nat.lt_or_ge i l.length with hlt | hge
    · have hii : (i : Int) < (l.length : Int) := by omega
      have hi0 : (0 : Int) ≤ (i : Int) := by omega
      have hiW := wrap_one i (by omega)
      obtain ⟨g, o, rfl, _, hc⟩ := hl.lit (by rw [natCells_length]; omega)
      have hcell := hc i (.int .i64 (l[i] : Nat)) (by unfold natCells; rw [List.getElem?_map, List.getElem?_eq_getElem hlt]; rfl)
      by_cases h : x ≤ (l[i] : Int)
      · have HN := hid (show nxt l x = some l[i] by unfold nxt; rw [L.clz_unique hr (by omega) (fun j hj => hall j hj (by omega)) (fun _ => h), List.getElem?_eq_getElem hlt])
        have k1 : decide ((l[i] : Int) ≥ x) = true := decide_eq_true h
        clear hc hall
        generalize l[i] = y at *
        go_wp2_with fail
        go_ret2
        exact ⟨by rw [HN.out]; rfl, rfl⟩
      · have HA := hid (show ∀ j (hj : j < i + 1), (hj2 : j < l.length) → (l[j] : Int) < x from fun j hj hj2 => by
          rcases Nat.lt_or_ge j i with h' | h'
          · exact hall j h' hj2
          · obtain rfl : j = i := by omega
            omega)
        have k1 : decide ((l[i] : Int) ≥ x) = false := decide_eq_false h
        clear hc hall
        generalize l[i] = y at *
        go_wp2_with fail
        go_round
        case rel => exact ⟨i + 1, by go_num, by omega, HA.out⟩
        case measure => simp [intOf]; omega
    · obtain rfl : i = l.length := by omega
      have HN := hid (show nxt l x = none by unfold nxt; rw [L.clz_unique hr (Nat.le_refl _) (fun j hj => hall j hj hj) (fun h => absurd h (by omega)), List.getElem?_eq_none (Nat.le_refl _)])
      clear hall
      go_wp2_with fail
      go_ret2
      exact ⟨by rw [HN.out]; rfl, rfl⟩

set_option maxHeartbeats 1000000 in
theorem refPrev_any (A : Option Addr) (c : Nat) (l : List Nat) (x : Int) (w : World) (hl : Lst w A (natCells l)) (hn : l.length ≤ 1000000) (hr : Ris l) :
    Calls Tryd.prog 26 #[.slice A l.length c, .int .i64 x] w fun e w' => e = .returned (oN (prv l x)) ∧ w = w' := by
  have hw0 : IntKind.i64.wrap ((l.length : Int) - 1) = (l.length : Int) - 1 := by rw [IntKind.wrap_i64]; omega
  go_enter Tryd.func26, Tryd.ntmps26
  go_wp2_with fail
  go_loop [6] (fun iv => ∃ (z : Int), iv = .int .i64 z ∧ -1 ≤ z ∧ z < l.length ∧ ∀ j (hj : j < l.length), z < (j : Int) → x < (l[j] : Int)) (fun iv => (intOf iv + 1).toNat)
  case atStart => exact ⟨(l.length : Int) - 1, rfl, by omega, by omega, fun j hj h => by omega⟩
  case round =>
    obtain ⟨z, rfl, hz, hz2, hall⟩ := hrel
    have hzW : IntKind.i64.wrap (z - 1) = z - 1 := by rw [IntKind.wrap_i64]; omega
    by_cases hz0 : 0 ≤ z
    · obtain ⟨i, rfl⟩ := Int.eq_ofNat_of_zero_le hz0
      have hlt : i < l.length := by omega
      have hi0 : (0 : Int) ≤ (i : Int) := by omega
      have d0 : decide ((i : Int) ≥ 0) = true := decide_eq_true (by omega)
      obtain ⟨g, o, rfl, _, hc⟩ := hl.lit (by rw [natCells_length]; omega)
      have hcell := hc i (.int .i64 (l[i] : Nat)) (by unfold natCells; rw [List.getElem?_map, List.getElem?_eq_getElem hlt]; rfl)
      by_cases h : (l[i] : Int) ≤ x
      · have HN := hid (show prv l x = some l[i] by
          have e : clz l (x + 1) = i + 1 := L.clz_unique hr (by omega) (fun j hj => by
            have := hr.le (i := j) (j := i) (by omega) hlt
            omega) (fun hi' => by have := hall (i + 1) hi' (by omega); omega)
          unfold prv; rw [e, if_neg (by omega), Nat.add_sub_cancel, List.getElem?_eq_getElem hlt])
        have k1 : decide ((l[i] : Int) ≤ x) = true := decide_eq_true h
        clear hc hall
        generalize l[i] = y at *
        go_wp2_with fail
        go_ret2
        exact ⟨by rw [HN.out]; rfl, rfl⟩
      · have HA := hid (show ∀ j (hj : j < l.length), (i : Int) - 1 < (j : Int) → x < (l[j] : Int) from fun j hj h1 => by
          by_cases h' : (i : Int) < (j : Int)
          · exact hall j hj h'
          · obtain rfl : j = i := by omega
            omega)
        have k1 : decide ((l[i] : Int) ≤ x) = false := decide_eq_false h
        clear hc hall
        generalize l[i] = y at *
        go_wp2_with fail
        go_round
        case rel => exact ⟨(i : Int) - 1, by first | rfl | go_num, by omega, by omega, HA.out⟩
        case measure => simp [intOf] <;> omega
    · obtain rfl : z = -1 := by omega
      have HN := hid (show prv l x = none by
        have e : clz l (x + 1) = 0 := L.clz_unique hr (Nat.zero_le _) (fun j hj => by omega) (fun h => by have := hall 0 h (by omega); omega)
        unfold prv; simp [e])
      clear hall
      go_wp2_with fail
      go_ret2
      exact ⟨by rw [HN.out]; rfl, rfl⟩

set_option maxHeartbeats 1000000 in
theorem refLess_any (A : Option Addr) (c : Nat) (l : List Nat) (x : Int) (w : World) (hl : Lst w A (natCells l)) (hn : l.length ≤ 1000000) :
    Calls Tryd.prog 27 #[.slice A l.length c, .int .i64 x] w fun e w' => e = .returned (.int .i64 (clz l x : Nat)) ∧ w = w' := by
  have HC := hid (L.clz_count l x)
  go_enter Tryd.func27, Tryd.ntmps27
  go_wp2_with fail
  go_loop [5, 6] (fun nv iv => ∃ (a i : Nat), nv = .int .i64 (a : Nat) ∧ iv = .int .i64 (i : Nat) ∧ i ≤ l.length ∧ a ≤ i ∧ a = (l.take i).countP fun y : Nat => decide ((y : Int) < x)) (fun _ iv => l.length - (intOf iv).toNat)
  case atStart => exact ⟨0, 0, rfl, rfl, by omega, by omega, rfl⟩
  case round =>
    obtain ⟨a, i, rfl, rfl, hi, hai, ha⟩ := hrel
    have HA := hid ha
    clear ha
    rcases Nat.lt_or_ge i l.length with hlt | hge
    · have hii : (i : Int) < (l.length : Int) := by omega
      have hi0 : (0 : Int) ≤ (i : Int) := by omega
      have hiW := wrap_one i (by omega)
      have haW := wrap_one a (by omega)
      obtain ⟨g, o, rfl, _, hc⟩ := hl.lit (by rw [natCells_length]; omega)
      have hcell := hc i (.int .i64 (l[i] : Nat)) (by unfold natCells; rw [List.getElem?_map, List.getElem?_eq_getElem hlt]; rfl)
      have HT := hid (show (l.take (i + 1)).countP (fun y : Nat => decide ((y : Int) < x)) = a + if decide ((l[i] : Int) < x) = true then 1 else 0 by
        rw [List.take_succ_eq_append_getElem hlt, List.countP_append, ← HA.out, List.countP_singleton])
      clear hc HA
      generalize l[i] = y at *
      by_cases h : (y : Int) < x
      · have k1 : decide ((y : Int) < x) = true := decide_eq_true h
        rw [k1, if_pos rfl] at HT
        go_wp2_with fail
        go_round
        case rel => exact ⟨a + 1, i + 1, by go_num, by go_num, by omega, by omega, HT.out.symm⟩
        case measure => simp [intOf]; omega
      · have k1 : decide ((y : Int) < x) = false := decide_eq_false h
        rw [k1, if_neg (by simp)] at HT
        go_wp2_with fail
        go_round
        case rel => exact ⟨a, i + 1, rfl, by go_num, by omega, by omega, HT.out.symm⟩
        case measure => simp [intOf]; omega
    · obtain rfl : i = l.length := by omega
      rw [List.take_length] at HA
      go_wp2_with fail
      go_ret
      exact ⟨by rw [HC.out, ← HA.out]; rfl, rfl⟩

end Go.Proofs.YtlpnbkfcbamnbaaDoor
