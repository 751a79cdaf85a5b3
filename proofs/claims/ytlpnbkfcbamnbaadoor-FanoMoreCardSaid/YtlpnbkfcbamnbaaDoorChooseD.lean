/- Walks: One, Zero, Ones, Rank, Size of a chooser. -/
import Derived.Test.YtlpnbkfcbamnbaaDoorChooseC
set_option linter.unusedVariables false
set_option linter.unusedSimpArgs false
set_option maxRecDepth 100000
namespace Go.Proofs.YtlpnbkfcbamnbaaDoor
open Go.RowKit Go.Shelf L

set_option maxHeartbeats 2000000 in
theorem chOne_none (g gd gx : Nat) (A : Option Addr) (c : Nat) (bs : List Bool) (Ad : Option Addr) (cd : Nat) (A1 : Option Addr) (c1 : Nat) (l1 : List Nat) (A0 : Option Addr) (c0 : Nat) (l0 : List Nat) (k : Int) (w : World)
    (hc : ChooserAt w g gd gx A c bs Ad cd A1 c1 l1 A0 c0 l0) (h : k < 0 ∨ (kc true bs bs.length : Int) ≤ k) :
    Calls Tryd.prog 71 #[.pointer (some ⟨g, 0, none⟩), .int .i64 k] w fun e w' => e = .returned (.tuple #[.int .i64 0, .int .i64 2]) ∧ w = w' := by
  have k2 : w.cell? ⟨g, 2, none⟩ = some (.int .i64 (kc true bs bs.length : Nat)) := hc.blk.cell 2
  have hg := hc.blk.lt
  generalize kc true bs bs.length = n at *
  by_cases h0 : k < 0
  · have hd : decide (k < 0) = true := decide_eq_true h0
    go_enter Tryd.func71, Tryd.ntmps71
    go_wp2
    go_ret2
    exact ⟨rfl, rfl⟩
  · have hd : decide (k < 0) = false := decide_eq_false h0
    have h1 : (n : Int) ≤ k := by omega
    go_enter Tryd.func71, Tryd.ntmps71
    go_wp2
    go_ret2
    exact ⟨rfl, rfl⟩

set_option maxHeartbeats 4000000 in
theorem chOne_at (g gd gx : Nat) (A : Option Addr) (c : Nat) (bs : List Bool) (Ad : Option Addr) (cd : Nat) (A1 : Option Addr) (c1 : Nat) (l1 : List Nat) (A0 : Option Addr) (c0 : Nat) (l0 : List Nat) (k p : Nat) (w : World)
    (hc : ChooserAt w g gd gx A c bs Ad cd A1 c1 l1 A0 c0 l0) (hT : Tab w) (hp : p < bs.length) (hb : bitAt bs p = true) (hk : kc true bs p = k) :
    Calls Tryd.prog 71 #[.pointer (some ⟨g, 0, none⟩), .int .i64 (k : Nat)] w fun e w' => e = .returned (.tuple #[.int .i64 (p : Nat), .int .i64 0]) ∧ Below w.heap.size w w' := by
  have k0 : w.cell? ⟨g, 0, none⟩ = some (.pointer (some ⟨gd, 0, none⟩)) := hc.blk.cell 0
  have k1 : w.cell? ⟨g, 1, none⟩ = some (.slice A1 l1.length c1) := hc.blk.cell 1
  have k2 : w.cell? ⟨g, 2, none⟩ = some (.int .i64 (kc true bs bs.length : Nat)) := hc.blk.cell 2
  have hg := hc.blk.lt
  have hkn : k < kc true bs bs.length := by rw [← hk]; exact kc_step true bs p bs.length hp hp hb
  have hki : ¬ ((kc true bs bs.length : Nat) : Int) ≤ (k : Int) := by omega
  have C1 : ∀ W, Below w.heap.size w W → Calls Tryd.prog 111 #[.pointer (some ⟨g, 0, none⟩), .agg #[.slice A1 l1.length c1, .int .i64 (kc true bs bs.length : Nat)], .int .i64 (k : Nat), .func (.func 112) #[.pointer (some ⟨gd, 0, none⟩)] #[]] W fun e w' =>
      ∃ q : Nat, e = .returned (.tuple #[.int .i64 (q : Nat), .int .i64 (k - kc true bs (64 * q) : Nat)]) ∧ kc true bs (64 * q) ≤ k ∧ k < kc true bs (64 * q + 64) ∧ Below w.heap.size w w' := fun W hW => by
    refine (find_choose true g gd gx A c bs Ad cd A1 c1 (kc true bs bs.length) l1 k W ((hW.cell (p := ⟨g, 0, none⟩) hg).trans k0) (by have := hW.size; omega) (hc.dir.below hW) (hc.one.below hW) hc.half1 hkn).mono ?_
    rintro e w' ⟨q, rfl, h1, h2, hB⟩
    exact ⟨q, rfl, h1, h2, hW.trans (hB.mono hW.size)⟩
  have H1 := hid C1
  have KC := hid (show ∀ W, Below w.heap.size w W → W.cell? ⟨g, 0, none⟩ = some (.pointer (some ⟨gd, 0, none⟩)) ∧ W.cell? ⟨g, 1, none⟩ = some (.slice A1 l1.length c1) ∧ W.cell? ⟨g, 2, none⟩ = some (.int .i64 (kc true bs bs.length : Nat)) from fun W hW =>
    ⟨(hW.cell (p := ⟨g, 0, none⟩) hg).trans k0, (hW.cell (p := ⟨g, 1, none⟩) hg).trans k1, (hW.cell (p := ⟨g, 2, none⟩) hg).trans k2⟩)
  have hB0 := Below.refl w.heap.size w
  have hmf : ∀ (fn : Fn) (first cap : Array Value) (w : World), (Instr.makeFunc fn first cap).run Tryd.prog w = .ok (.func fn first cap) w := fun _ _ _ _ => rfl
  have HK := hid hk
  clear C1 hk
  generalize kc true bs bs.length = n at *
  go_enter Tryd.func71, Tryd.ntmps71
  go_wp2_with fail
  go_region_held3 (fun w' => Below w.heap.size w w' ∧ w'.cell? ⟨g, 0, none⟩ = some (.pointer (some ⟨gd, 0, none⟩)) ∧ w'.cell? ⟨g, 1, none⟩ = some (.slice A1 l1.length c1) ∧ w'.cell? ⟨g, 2, none⟩ = some (.int .i64 (n : Nat)))
    (first | exact ⟨hB0.drew, k0, k1, k2⟩ | exact ⟨e1, KC.out _ e1⟩ | assumption)
    (first
     | (go_at_call 111; refine (H1.out _ (by first | assumption | exact And.left (by assumption))).mono ?_; rintro e w5 ⟨q, rfl, hq1, hq2, e1⟩))
  all_goals
    have hk := HK.out
    obtain ⟨p1, p2⟩ := in_word hp hb hk hq1 hq2
    obtain ⟨j, rfl⟩ : ∃ j, p = 64 * q + j := ⟨p - 64 * q, by omega⟩
    have hj : j < 64 := by omega
    have hsl := sel_one bs q j hj hp hb
    rw [hk] at hsl
    have hd5 := hc.dir.below e1
    have hr5 := hd5.row
    have hT5 := hT.below e1
    have hsm := hr5.small
    have hwl := wordAt_lt bs q
    have HW := hid (fun W hW => by have := rword_any gx A c bs (q : Nat) W hW; rw [wordI_nat] at this; exact this)
    have HS := hid (fun W hW => by have := select_any (wordAt bs q) ((k - kc true bs (64 * q) : Nat) : Int) W hwl hW; rw [hsl] at this; exact this)
    have hq1' : kc true bs (64 * q) ≤ k := hq1
    have b1 := kc_le true bs (64 * q)
    clear hsl hk KC H1
    generalize kc true bs (64 * q) = kq at *
    generalize wordAt bs q = v at *
    go_wp2_with fail
    refine (rankRow_any _ _ _ _ _ _ _ _ hd5).mono ?_
    rintro e w' ⟨rfl, rfl⟩
    go_wp2_with fail
    refine (HW.out _ hr5).mono ?_
    rintro e w' ⟨rfl, rfl⟩
    go_wp2_with fail
    refine (HS.out _ hT5).mono ?_
    rintro e w' ⟨rfl, rfl⟩
    go_wp2
    go_ret2
    exact ⟨by rw [show ((64 * q + j : Nat) : Int) = (q : Int) * 64 + (j : Int) from by omega]; rfl, e1⟩

end Go.Proofs.YtlpnbkfcbamnbaaDoor
