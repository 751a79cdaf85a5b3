/- Walks: a block's node (minmax). -/
import Derived.Test.YtacllonekidocaaGreatDoorMinmaxA
set_option linter.unusedVariables false
set_option linter.unusedSimpArgs false
set_option maxRecDepth 100000
namespace Go.Proofs.YtacllonekidocaaGreatDoor
open Go.RowKit L

theorem fl_nil : fl 0 = 0 := by decide +kernel
theorem pExcess_nat (g : Nat) (A : Option Addr) (c : Nat) (bs : List Bool) (a b : Nat) (w : World) (hr : RowAt w g A c bs) (hab : a ≤ b) (hb : b ≤ bs.length) :
    Calls Tryz.prog 127 #[.pointer (some ⟨g, 0, none⟩), .int .i64 (a : Nat), .int .i64 (b : Nat)] w fun e w' => e = .returned (.int .i64 (eb (bitAt bs) a b)) ∧ ∃ m, w' = w.drewN m := by
  have h := pExcess_any g A c bs (a : Nat) (b : Nat) w hr
  have e1 : held bs.length (a : Nat) = a := by unfold held; omega
  have e2 : heldTo bs.length (a : Nat) (b : Nat) = b := by unfold heldTo; rw [e1]; omega
  rwa [e1, e2] at h
theorem pReach_nat (g : Nat) (A : Option Addr) (c : Nat) (bs : List Bool) (a b : Nat) (w : World) (hr : RowAt w g A c bs) (hab : a < b) (hb : b ≤ bs.length) :
    Calls Tryz.prog 128 #[.pointer (some ⟨g, 0, none⟩), .int .i64 (a : Nat), .int .i64 (b : Nat)] w fun e w' => e = .returned (.complex .f64 (lxf (rf (bitAt bs) a b)) (uxf (rf (bitAt bs) a b))) ∧ ∃ m, w' = w.drewN m := by
  have h := pReach_any g A c bs (a : Nat) (b : Nat) w hr
  have e1 : held bs.length (a : Nat) = a := by unfold held; omega
  have e2 : heldTo bs.length (a : Nat) (b : Nat) = b := by unfold heldTo; rw [e1]; omega
  rw [e1, e2] at h
  have e3 : rf (bitAt bs) a b = some (lo (sh (bitAt bs) a) (b - a), hi (sh (bitAt bs) a) (b - a)) := by unfold rf; rw [if_neg (by omega)]
  rw [e3]
  exact h

set_option maxHeartbeats 1000000 in
theorem leaf_any (g : Nat) (A : Option Addr) (c : Nat) (bs : List Bool) (i : Nat) (w : World) (hr : RowAt w g A c bs) (hi : i ≤ 8589934592) :
    Calls Tryz.prog 98 #[.pointer (some ⟨g, 0, none⟩), .int .i64 (i : Nat)] w fun x w' =>
      x = .returned (ndV (eb (bitAt bs) (min i bs.length) (min (i + 512) bs.length)) (rf (bitAt bs) (min i bs.length) (min (i + 512) bs.length)) (rb (bitAt bs) (min i bs.length) (min (i + 512) bs.length))) ∧ Below w.heap.size w w' := by
  have hsm := hr.small
  have hcl := hr.cells.2
  have hiw : IntKind.i64.wrap ((i : Int) + 512) = (i : Int) + 512 := by rw [IntKind.wrap_i64]; omega
  obtain ⟨b, hb⟩ : ∃ b, b = min (i + 512) bs.length := ⟨_, rfl⟩
  have hmin : min ((i : Int) + 512) (bs.length : Int) = (b : Int) := by omega
  rw [← hb]
  obtain ⟨fs, hd1⟩ := undNode
  have hsc := fun (W : World) (a : Addr) (x y : Nat) (m : Mode) => run_store_complex W a x y m
  obtain ⟨o0, ho0⟩ : ∃ o, o = Obj.cells #[.int .i64 0, .complex .f64 0 0, .complex .f64 0 0] 142 := ⟨_, rfl⟩
  obtain ⟨w1, hw1⟩ : ∃ w1, w1 = w.alloc o0 := ⟨_, rfl⟩
  have hB1 : Below w.heap.size w w1 := by rw [hw1]; exact (Below.refl _ _).alloc (Nat.le_refl _) _
  have hN1 : BlkIs w1 w.heap.size 142 #[.int .i64 0, .complex .f64 0 0, .complex .f64 0 0] := by rw [hw1, ho0]; exact BlkIs.new _ _ _
  rw [ho0] at hw1
  have hr1 := hr.below hB1
  have hcl1 := hr1.cells.2
  have hz1 := hB1.size
  rcases Nat.lt_or_ge i bs.length with hlt | hge
  · have ha : min i bs.length = i := by omega
    rw [ha]
    have hib : i < b := by omega
    have hbn : b ≤ bs.length := by omega
    have hge2 : ¬ ((b : Int) ≤ (i : Int)) := by omega
    have hge2N : ¬ b ≤ i := by omega
    clear ha hb
    have hb1 : IntKind.i64.wrap ((b : Int) - 1) = ((b - 1 : Nat) : Int) := by rw [IntKind.wrap_i64]; omega
    have HEX := hid (fun W hW => pExcess_nat g A c bs i b W hW (by omega) hbn)
    have HRE := hid (fun W hW => pReach_nat g A c bs i b W hW hib hbn)
    obtain ⟨b', hb'⟩ : ∃ b', b' = b - 1 := ⟨_, rfl⟩
    rw [← hb'] at hb1
    have HB' := hid hb'
    have HRB := hid (show i < b' → ∀ W, RowAt W g A c bs → _ from fun h1 W hW => pReach_nat g A c bs i b' W hW (by omega) (by omega))
    have HBO := hid (fun W => mboth_any (some (0, 0)) (rf (bitAt bs) i b') W (Bd.some (by omega)) (Bs.rf _ _ _ (by omega)).bd)
    have HBE := hid (show i < b' → bo (some (0, 0)) (rf (bitAt bs) i b') = rb (bitAt bs) i b from fun h1 => by subst hb'; unfold rf rb; rw [if_neg (by omega), if_neg (by omega)]; rfl)
    have HBN := hid (show ¬ i < b' → lxf (rb (bitAt bs) i b) = 0 ∧ uxf (rb (bitAt bs) i b) = 0 from fun h1 => by
      have : b - 1 - i = 0 := by omega
      unfold rb; rw [if_neg (by omega), this]; exact ⟨fl_nil, fl_nil⟩)
    unfold ndV
    generalize rf (bitAt bs) i b = R1 at *
    generalize rb (bitAt bs) i b = R2 at *
    generalize rf (bitAt bs) i b' = R3 at *
    generalize eb (bitAt bs) i b = E1 at *
    clear hb'
    have c10 := hN1.cell 0
    go_enter Tryz.func98, Tryz.ntmps98
    go_wp2_with fail
    rw [← hw1]
    clear hw1
    refine (rlen_any g (bs.length : Nat) _ hcl1).mono ?_
    rintro e w' ⟨rfl, rfl⟩
    go_wp2_with fail
    with_reducible refine (HEX.out _ hr1).mono ?_
    rintro e w' ⟨rfl, m1, rfl⟩
    go_wp2_with fail
    refine (HRE.out _ (by exact hr1)).mono ?_
    rintro e w' ⟨rfl, m2, rfl⟩
    have hB2 : Below w.heap.size w ((w1.drewN m1).drewN m2) := below_drewN (below_drewN hB1 _) _
    have hr2 : RowAt ((w1.drewN m1).drewN m2) g A c bs := hr1
    have hN2 : BlkIs ((w1.drewN m1).drewN m2) w.heap.size 142 #[.int .i64 0, .complex .f64 0 0, .complex .f64 0 0] := hN1
    clear hN1 hr1 hcl1 c10 hr hcl
    generalize (w1.drewN m1).drewN m2 = w2 at *
    by_cases h1 : i < b'
    · have g1 : decide ((b' : Int) > (i : Int)) = true := decide_eq_true (by omega)
      have g1N : (i : Int) < (b' : Int) := by omega
      have HBE' := HBE.out h1
      have HRB' := hid (HRB.out h1)
      rw [HBE'] at HBO
      clear HBE HBN HRB HBE'
      go_wp2_with fail
      have hN3 := BlkIs.new w2 142 #[.int .i64 E1, .complex .f64 (lxf R1) (uxf R1), .complex .f64 0 0]
      have hN23 := hN2.alloc (.cells #[.int .i64 E1, .complex .f64 (lxf R1) (uxf R1), .complex .f64 0 0] 142)
      have hB3 := hB2.alloc hB2.size (.cells #[.int .i64 E1, .complex .f64 (lxf R1) (uxf R1), .complex .f64 0 0] 142)
      have hr3 := hr2.below ((Below.refl w2.heap.size w2).alloc (Nat.le_refl _) (.cells #[.int .i64 E1, .complex .f64 (lxf R1) (uxf R1), .complex .f64 0 0] 142))
      have hne : w.heap.size ≠ w2.heap.size := by have := hN2.lt; omega
      have hwn := hB2.size
      obtain ⟨n, hn⟩ : ∃ n, n = w2.heap.size := ⟨_, rfl⟩
      rw [← hn] at hN3 hne hwn ⊢
      generalize w2.alloc (.cells #[.int .i64 E1, .complex .f64 (lxf R1) (uxf R1), .complex .f64 0 0] 142) = w3 at *
      clear hN2 hB2 hr2 hn
      refine (HRB'.out _ hr3).mono ?_
      rintro e w' ⟨rfl, m3, rfl⟩
      have hB4 : Below w.heap.size w (w3.drewN m3) := below_drewN hB3 _
      have hN4 : BlkIs (w3.drewN m3) n 142 #[.int .i64 E1, .complex .f64 (lxf R1) (uxf R1), .complex .f64 0 0] := hN3
      have hN24 : BlkIs (w3.drewN m3) w.heap.size 142 #[.int .i64 0, .complex .f64 0 0, .complex .f64 0 0] := hN23
      clear hB3 hN3 hN23 hr3
      generalize w3.drewN m3 = w4 at *
      go_wp2_with fail
      have HBO2 := hid (show ∀ W, Calls Tryz.prog 129 #[.complex .f64 0 0, .complex .f64 (lxf R3) (uxf R3)] W fun x w' => x = .returned (.complex .f64 (lxf R2) (uxf R2)) ∧ W = w' from fun W => by
        have := HBO.out W
        rw [show lxf (some ((0 : Int), (0 : Int))) = 0 from fl_nil, show uxf (some ((0 : Int), (0 : Int))) = 0 from fl_nil] at this
        exact this)
      refine (HBO2.out _).mono ?_
      rintro e w' ⟨rfl, rfl⟩
      have c42 := hN4.cell 2
      have f42 := hN4.frozen 2
      have hP : ∀ v, BlkIs (w4.setCell ⟨n, 2, none⟩ v) w.heap.size 142 #[.int .i64 0, .complex .f64 0 0, .complex .f64 0 0] := fun v => hN24.far hne v
      have d0 : ∀ v, (w4.setCell ⟨n, 2, none⟩ v).cell? ⟨n, 0, none⟩ = some (.int .i64 E1) := fun v => (hN4.put 2 v).cell 0
      have d1 : ∀ v, (w4.setCell ⟨n, 2, none⟩ v).cell? ⟨n, 1, none⟩ = some (.complex .f64 (lxf R1) (uxf R1)) := fun v => (hN4.put 2 v).cell 1
      have d2 : ∀ v, (w4.setCell ⟨n, 2, none⟩ v).cell? ⟨n, 2, none⟩ = some v := fun v => (hN4.put 2 v).cell 2
      have rc0 : ∀ v, (w4.setCell ⟨n, 2, none⟩ v).cell? ⟨w.heap.size, 0, none⟩ = some (.int .i64 0) := fun v => (hP v).cell 0
      have rf0 : ∀ v, (w4.setCell ⟨n, 2, none⟩ v).frozen? ⟨w.heap.size, 0, none⟩ = false := fun v => (hP v).frozen 0
      have rc1 : ∀ v u, ((w4.setCell ⟨n, 2, none⟩ v).setCell ⟨w.heap.size, 0, none⟩ u).cell? ⟨w.heap.size, 1, none⟩ = some (.complex .f64 0 0) := fun v u => ((hP v).put 0 u).cell 1
      have rf1 : ∀ v u, ((w4.setCell ⟨n, 2, none⟩ v).setCell ⟨w.heap.size, 0, none⟩ u).frozen? ⟨w.heap.size, 1, none⟩ = false := fun v u => ((hP v).put 0 u).frozen 1
      have rc2 : ∀ v u u', (((w4.setCell ⟨n, 2, none⟩ v).setCell ⟨w.heap.size, 0, none⟩ u).setCell ⟨w.heap.size, 1, none⟩ u').cell? ⟨w.heap.size, 2, none⟩ = some (.complex .f64 0 0) := fun v u u' => (((hP v).put 0 u).put 1 u').cell 2
      have rf2 : ∀ v u u', (((w4.setCell ⟨n, 2, none⟩ v).setCell ⟨w.heap.size, 0, none⟩ u).setCell ⟨w.heap.size, 1, none⟩ u').frozen? ⟨w.heap.size, 2, none⟩ = false := fun v u u' => (((hP v).put 0 u).put 1 u').frozen 2
      go_wp2_with fail
      (try simp only [Exit.inBlock, Exit.then])
      refine bodyPost_ret (v := .agg #[.int .i64 E1, .complex .f64 (lxf R1) (uxf R1), .complex .f64 (lxf R2) (uxf R2)]) ?hr rfl ?_
      case hr => exact results_cell_row rfl _ _ w.heap.size 142 _ (0, 0) _ rfl (show BlkIs _ _ _ _ from (((hP _).put 0 _).put 1 _).put 2 _) hd1 rfl (by kernel_rfl)
      exact ⟨rfl, (((hB4.setCell hwn _).setCell (Nat.le_refl _) _).setCell (Nat.le_refl _) _).setCell (Nat.le_refl _) _⟩
    · have g1 : decide ((b' : Int) > (i : Int)) = false := decide_eq_false (by omega)
      have g1N : ¬ ((i : Int) < (b' : Int)) := by omega
      have HB2 := hid (HBN.out h1)
      clear HBE HBN HRB HBO
      obtain ⟨o, ho⟩ : ∃ o, o = Obj.cells #[.int .i64 E1, .complex .f64 (lxf R1) (uxf R1), .complex .f64 0 0] 142 := ⟨_, rfl⟩
      have hP : BlkIs (w2.alloc (.cells #[.int .i64 E1, .complex .f64 (lxf R1) (uxf R1), .complex .f64 0 0] 142)) w.heap.size 142 #[.int .i64 0, .complex .f64 0 0, .complex .f64 0 0] := hN2.alloc _
      have hB3 := hB2.alloc hB2.size (.cells #[.int .i64 E1, .complex .f64 (lxf R1) (uxf R1), .complex .f64 0 0] 142)
      have hnew := BlkIs.new w2 142 #[.int .i64 E1, .complex .f64 (lxf R1) (uxf R1), .complex .f64 0 0]
      have d0 := hnew.cell 0
      have d1 := hnew.cell 1
      have d2 := hnew.cell 2
      have rc0 := hP.cell 0
      have rf0 := hP.frozen 0
      have rc1 : ∀ u, ((w2.alloc (.cells #[.int .i64 E1, .complex .f64 (lxf R1) (uxf R1), .complex .f64 0 0] 142)).setCell ⟨w.heap.size, 0, none⟩ u).cell? ⟨w.heap.size, 1, none⟩ = some (.complex .f64 0 0) := fun u => (hP.put 0 u).cell 1
      have rf1 : ∀ u, ((w2.alloc (.cells #[.int .i64 E1, .complex .f64 (lxf R1) (uxf R1), .complex .f64 0 0] 142)).setCell ⟨w.heap.size, 0, none⟩ u).frozen? ⟨w.heap.size, 1, none⟩ = false := fun u => (hP.put 0 u).frozen 1
      have rc2 : ∀ u u', (((w2.alloc (.cells #[.int .i64 E1, .complex .f64 (lxf R1) (uxf R1), .complex .f64 0 0] 142)).setCell ⟨w.heap.size, 0, none⟩ u).setCell ⟨w.heap.size, 1, none⟩ u').cell? ⟨w.heap.size, 2, none⟩ = some (.complex .f64 0 0) := fun u u' => ((hP.put 0 u).put 1 u').cell 2
      have rf2 : ∀ u u', (((w2.alloc (.cells #[.int .i64 E1, .complex .f64 (lxf R1) (uxf R1), .complex .f64 0 0] 142)).setCell ⟨w.heap.size, 0, none⟩ u).setCell ⟨w.heap.size, 1, none⟩ u').frozen? ⟨w.heap.size, 2, none⟩ = false := fun u u' => ((hP.put 0 u).put 1 u').frozen 2
      go_wp2_with fail
      (try simp only [Exit.inBlock, Exit.then])
      refine bodyPost_ret (v := .agg #[.int .i64 E1, .complex .f64 (lxf R1) (uxf R1), .complex .f64 0 0]) ?hr rfl ?_
      case hr => exact results_cell_row rfl _ _ w.heap.size 142 _ (0, 0) _ rfl (show BlkIs _ _ _ _ from ((hP.put 0 _).put 1 _).put 2 _) hd1 rfl (by kernel_rfl)
      exact ⟨by rw [HB2.out.1, HB2.out.2], ((hB3.setCell (Nat.le_refl _) _).setCell (Nat.le_refl _) _).setCell (Nat.le_refl _) _⟩
  · have ha : min i bs.length = bs.length := by omega
    have hb2 : b = bs.length := by omega
    rw [ha, hb2, eb_self]
    unfold rf rb
    rw [if_pos (Nat.le_refl _), if_pos (Nat.le_refl _)]
    unfold ndV
    have hge2 : (b : Int) ≤ (i : Int) := by omega
    clear hb ha hb2
    have rc0 := hN1.cell 0
    have rf0 := hN1.frozen 0
    have rc1 : ∀ u, (w1.setCell ⟨w.heap.size, 0, none⟩ u).cell? ⟨w.heap.size, 1, none⟩ = some (.complex .f64 0 0) := fun u => (hN1.put 0 u).cell 1
    have rf1 : ∀ u, (w1.setCell ⟨w.heap.size, 0, none⟩ u).frozen? ⟨w.heap.size, 1, none⟩ = false := fun u => (hN1.put 0 u).frozen 1
    have rc2 : ∀ u u', ((w1.setCell ⟨w.heap.size, 0, none⟩ u).setCell ⟨w.heap.size, 1, none⟩ u').cell? ⟨w.heap.size, 2, none⟩ = some (.complex .f64 0 0) := fun u u' => ((hN1.put 0 u).put 1 u').cell 2
    have rf2 : ∀ u u', ((w1.setCell ⟨w.heap.size, 0, none⟩ u).setCell ⟨w.heap.size, 1, none⟩ u').frozen? ⟨w.heap.size, 2, none⟩ = false := fun u u' => ((hN1.put 0 u).put 1 u').frozen 2
    go_enter Tryz.func98, Tryz.ntmps98
    go_wp2_with fail
    rw [← hw1]
    clear hw1
    refine (rlen_any g (bs.length : Nat) _ hcl1).mono ?_
    rintro e w' ⟨rfl, rfl⟩
    go_wp2_with fail
    refine (nothing_any _).mono ?_
    rintro e w' ⟨rfl, rfl⟩
    go_wp2_with fail
    refine (nothing_any _).mono ?_
    rintro e w' ⟨rfl, rfl⟩
    go_wp2_with fail
    (try simp only [Exit.inBlock, Exit.then])
    refine bodyPost_ret (v := .agg #[.int .i64 0, .complex .f64 (lxf none) (uxf none), .complex .f64 (lxf none) (uxf none)]) ?hr rfl ?_
    case hr => exact results_cell_row rfl _ _ w.heap.size 142 _ (0, 0) _ rfl (show BlkIs _ _ _ _ from ((hN1.put 0 _).put 1 _).put 2 _) hd1 rfl (by kernel_rfl)
    exact ⟨rfl, ((hB1.setCell (Nat.le_refl _) _).setCell (Nat.le_refl _) _).setCell (Nat.le_refl _) _⟩
end Go.Proofs.YtacllonekidocaaGreatDoor
