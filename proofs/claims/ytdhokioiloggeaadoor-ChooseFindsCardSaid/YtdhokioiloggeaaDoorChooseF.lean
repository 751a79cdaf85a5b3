/- Walks: One and Zero told by the reference's search; the reference of layer 4. -/
import Derived.Test.YtdhokioiloggeaaDoorChooseE
import Derived.Test.YtdhokioiloggeaaDoorMath13
set_option linter.unusedVariables false
set_option linter.unusedSimpArgs false
set_option maxRecDepth 100000
namespace Go.Proofs.YtdhokioiloggeaaDoor
open Go.RowKit Go.Shelf L

/-- The error's number. -/
def plErr (z : Int) : Int := if 0 ≤ z then 0 else 2

theorem chOne_any (g gd gx : Nat) (A : Option Addr) (c : Nat) (bs : List Bool) (Ad : Option Addr) (cd : Nat) (A1 : Option Addr) (c1 : Nat) (l1 : List Nat) (A0 : Option Addr) (c0 : Nat) (l0 : List Nat) (k : Int) (w : World)
    (hc : ChooserAt w g gd gx A c bs Ad cd A1 c1 l1 A0 c0 l0) (hT : Tab w) :
    Calls Tryd.prog 31 #[.pointer (some ⟨g, 0, none⟩), .int .i64 k] w fun e w' => e = .returned (.tuple #[.int .i64 (max (pl true bs k) 0), .int .i64 (plErr (pl true bs k))]) ∧ Below w.heap.size w w' := by
  rcases pl_ways true bs k with ⟨h, e⟩ | ⟨p, n, rfl, hp, hb, hk, e⟩
  · rw [e]
    exact (chOne_none g gd gx A c bs Ad cd A1 c1 l1 A0 c0 l0 k w hc h).mono fun e w' ⟨he, hw⟩ => ⟨he, hw ▸ Below.refl _ _⟩
  · rw [e, show max ((p : Nat) : Int) 0 = (p : Int) from by omega, show plErr (p : Int) = 0 from by unfold plErr; rw [if_pos (by omega)]]
    exact chOne_at g gd gx A c bs Ad cd A1 c1 l1 A0 c0 l0 n p w hc hT hp hb hk
theorem chZero_any (g gd gx : Nat) (A : Option Addr) (c : Nat) (bs : List Bool) (Ad : Option Addr) (cd : Nat) (A1 : Option Addr) (c1 : Nat) (l1 : List Nat) (A0 : Option Addr) (c0 : Nat) (l0 : List Nat) (k : Int) (w : World)
    (hc : ChooserAt w g gd gx A c bs Ad cd A1 c1 l1 A0 c0 l0) (hT : Tab w) :
    Calls Tryd.prog 35 #[.pointer (some ⟨g, 0, none⟩), .int .i64 k] w fun e w' => e = .returned (.tuple #[.int .i64 (max (pl false bs k) 0), .int .i64 (plErr (pl false bs k))]) ∧ Below w.heap.size w w' := by
  rcases pl_ways false bs k with ⟨h, e⟩ | ⟨p, n, rfl, hp, hb, hk, e⟩
  · rw [e]
    exact (chZero_none g gd gx A c bs Ad cd A1 c1 l1 A0 c0 l0 k w hc h).mono fun e w' ⟨he, hw⟩ => ⟨he, hw ▸ Below.refl _ _⟩
  · rw [e, show max ((p : Nat) : Int) 0 = (p : Int) from by omega, show plErr (p : Int) = 0 from by unfold plErr; rw [if_pos (by omega)]]
    exact chZero_at g gd gx A c bs Ad cd A1 c1 l1 A0 c0 l0 n p w hc hT hp hb hk

theorem chRank_any (g gd gx : Nat) (A : Option Addr) (c : Nat) (bs : List Bool) (Ad : Option Addr) (cd : Nat) (A1 : Option Addr) (c1 : Nat) (l1 : List Nat) (A0 : Option Addr) (c0 : Nat) (l0 : List Nat) (i : Int) (w : World)
    (hc : ChooserAt w g gd gx A c bs Ad cd A1 c1 l1 A0 c0 l0) :
    Calls Tryd.prog 37 #[.pointer (some ⟨g, 0, none⟩), .int .i64 i] w fun e w' => e = .returned (.int .i64 (cnt bs (held bs.length i) : Nat)) ∧ Below w.heap.size w w' := by
  have k0 : w.cell? ⟨g, 0, none⟩ = some (.pointer (some ⟨gd, 0, none⟩)) := hc.blk.cell 0
  have hg := hc.blk.lt
  have HR := hid (rankOne_any gd gx A c bs Ad cd i w hc.dir)
  go_enter Tryd.func37, Tryd.ntmps37
  go_wp2_with fail
  refine HR.out.mono ?_
  rintro e w' ⟨rfl, hB⟩
  go_wp2
  go_ret
  exact ⟨rfl, hB⟩

set_option maxHeartbeats 2000000 in
theorem refAt_true (A : Option Addr) (c : Nat) (bs : List Bool) (k : Int) (w : World) (hl : Lst w A (bools bs)) (hs : bs.length ≤ 4294967296) :
    Calls Tryd.prog 36 #[.slice A bs.length c, .int .i64 k, .bool true] w fun e w' => e = .returned (.int .i64 (pl true bs k)) ∧ w = w' := by
  go_enter Tryd.func36, Tryd.ntmps36
  go_wp2_with fail
  go_loop [7, 8] (fun n i => ∃ j : Nat, j ≤ bs.length ∧ i = .int .i64 (j : Nat) ∧ n = .int .i64 (kc true bs j : Nat) ∧ Hid (plTo true bs k j = -1)) (fun _ i => bs.length - (intOf i).toNat)
  case atStart => exact ⟨0, by omega, rfl, rfl, hid rfl⟩
  case round =>
    obtain ⟨j, hj, rfl, rfl, hp⟩ := hrel
    have hkl := kc_le true bs j
    rcases Nat.lt_or_ge j bs.length with hlt | hge
    · have q0 := bools_get bs (i := j) (by omega)
      obtain ⟨ab, ao, rfl, had, hcl⟩ := hl.lit (by rw [bools_length]; omega)
      have wc := hcl _ _ q0
      have hki : (j : Int) < (bs.length : Int) := by omega
      have HN := hid (kc_next true bs j hlt)
      have HP := hid (plTo_next true bs k j hlt hp.out)
      clear hcl q0
      by_cases hbt : bitAt bs j = true
      · rw [hbt] at wc
        have HN2 := hid (show kc true bs (j + 1) = kc true bs j + 1 by rw [HN.out, hbt]; simp)
        by_cases hk : (kc true bs j : Int) = k
        · have hb2 : ((kc true bs j : Int) == k) = true := by rw [beq_iff_eq]; exact hk
          have HR := hid (pl_eq true bs j k hlt hbt hk)
          clear hbt hk
          go_wp2
          go_ret
          exact ⟨by rw [HR.out]; rfl, rfl⟩
        · have hb2 : ((kc true bs j : Int) == k) = false := by rw [beq_eq_false_iff_ne]; exact hk
          have HZ := hid (show plTo true bs k (j + 1) = -1 by rw [HP.out, if_neg (fun h => hk h.2)])
          clear hbt hk
          go_wp2
          go_round
          case rel => exact ⟨j + 1, by omega, by go_num, by rw [HN2.out]; go_num, HZ⟩
          case measure => simp [intOf]; omega
      · have hbf : bitAt bs j = false := by cases h : bitAt bs j <;> simp_all
        rw [hbf] at wc
        have HN2 := hid (show kc true bs (j + 1) = kc true bs j by rw [HN.out, hbf]; simp)
        have HZ := hid (show plTo true bs k (j + 1) = -1 by rw [HP.out, if_neg (fun h => hbt h.1)])
        clear hbt hbf
        go_wp2
        go_round
        case rel => exact ⟨j + 1, by omega, by go_num, by rw [HN2.out], HZ⟩
        case measure => simp [intOf]; omega
    · obtain rfl : j = bs.length := by omega
      have HR := hid (show pl true bs k = -1 from hp.out)
      go_wp2
      go_ret
      exact ⟨by rw [HR.out]; rfl, rfl⟩

set_option maxHeartbeats 2000000 in
theorem refAt_false (A : Option Addr) (c : Nat) (bs : List Bool) (k : Int) (w : World) (hl : Lst w A (bools bs)) (hs : bs.length ≤ 4294967296) :
    Calls Tryd.prog 36 #[.slice A bs.length c, .int .i64 k, .bool false] w fun e w' => e = .returned (.int .i64 (pl false bs k)) ∧ w = w' := by
  go_enter Tryd.func36, Tryd.ntmps36
  go_wp2_with fail
  go_loop [7, 8] (fun n i => ∃ j : Nat, j ≤ bs.length ∧ i = .int .i64 (j : Nat) ∧ n = .int .i64 (kc false bs j : Nat) ∧ Hid (plTo false bs k j = -1)) (fun _ i => bs.length - (intOf i).toNat)
  case atStart => exact ⟨0, by omega, rfl, rfl, hid rfl⟩
  case round =>
    obtain ⟨j, hj, rfl, rfl, hp⟩ := hrel
    have hkl := kc_le false bs j
    rcases Nat.lt_or_ge j bs.length with hlt | hge
    · have q0 := bools_get bs (i := j) (by omega)
      obtain ⟨ab, ao, rfl, had, hcl⟩ := hl.lit (by rw [bools_length]; omega)
      have wc := hcl _ _ q0
      have hki : (j : Int) < (bs.length : Int) := by omega
      have HN := hid (kc_next false bs j hlt)
      have HP := hid (plTo_next false bs k j hlt hp.out)
      clear hcl q0
      by_cases hbt : bitAt bs j = false
      · rw [hbt] at wc
        have HN2 := hid (show kc false bs (j + 1) = kc false bs j + 1 by rw [HN.out, hbt]; simp)
        by_cases hk : (kc false bs j : Int) = k
        · have hb2 : ((kc false bs j : Int) == k) = true := by rw [beq_iff_eq]; exact hk
          have HR := hid (pl_eq false bs j k hlt hbt hk)
          clear hbt hk
          go_wp2
          go_ret
          exact ⟨by rw [HR.out]; rfl, rfl⟩
        · have hb2 : ((kc false bs j : Int) == k) = false := by rw [beq_eq_false_iff_ne]; exact hk
          have HZ := hid (show plTo false bs k (j + 1) = -1 by rw [HP.out, if_neg (fun h => hk h.2)])
          clear hbt hk
          go_wp2
          go_round
          case rel => exact ⟨j + 1, by omega, by go_num, by rw [HN2.out]; go_num, HZ⟩
          case measure => simp [intOf]; omega
      · have hbf : bitAt bs j = true := by cases h : bitAt bs j <;> simp_all
        rw [hbf] at wc
        have HN2 := hid (show kc false bs (j + 1) = kc false bs j by rw [HN.out, hbf]; simp)
        have HZ := hid (show plTo false bs k (j + 1) = -1 by rw [HP.out, if_neg (fun h => hbt h.1)])
        clear hbt hbf
        go_wp2
        go_round
        case rel => exact ⟨j + 1, by omega, by go_num, by rw [HN2.out], HZ⟩
        case measure => simp [intOf]; omega
    · obtain rfl : j = bs.length := by omega
      have HR := hid (show pl false bs k = -1 from hp.out)
      go_wp2
      go_ret
      exact ⟨by rw [HR.out]; rfl, rfl⟩

theorem refAt_any (A : Option Addr) (c : Nat) (bs : List Bool) (k : Int) (t : Bool) (w : World) (hl : Lst w A (bools bs)) (hs : bs.length ≤ 4294967296) :
    Calls Tryd.prog 36 #[.slice A bs.length c, .int .i64 k, .bool t] w fun e w' => e = .returned (.int .i64 (pl t bs k)) ∧ w = w' := by
  cases t
  · exact refAt_false A c bs k w hl hs
  · exact refAt_true A c bs k w hl hs

end Go.Proofs.YtdhokioiloggeaaDoor
