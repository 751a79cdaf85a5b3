/- Walks: Zero, Ones, Size of a chooser. -/
import Derived.Test.YtlpnbkfcbamnbaaDoorChooseD
set_option linter.unusedVariables false
set_option linter.unusedSimpArgs false
set_option maxRecDepth 100000
namespace Go.Proofs.YtlpnbkfcbamnbaaDoor
open Go.RowKit Go.Shelf L

set_option maxHeartbeats 2000000 in
theorem chZero_none (g gd gx : Nat) (A : Option Addr) (c : Nat) (bs : List Bool) (Ad : Option Addr) (cd : Nat) (A1 : Option Addr) (c1 : Nat) (l1 : List Nat) (A0 : Option Addr) (c0 : Nat) (l0 : List Nat) (k : Int) (w : World)
    (hc : ChooserAt w g gd gx A c bs Ad cd A1 c1 l1 A0 c0 l0) (h : k < 0 ∨ (kc false bs bs.length : Int) ≤ k) :
    Calls Tryd.prog 105 #[.pointer (some ⟨g, 0, none⟩), .int .i64 k] w fun e w' => e = .returned (.tuple #[.int .i64 0, .int .i64 2]) ∧ w = w' := by
  have k2 : w.cell? ⟨g, 4, none⟩ = some (.int .i64 (kc false bs bs.length : Nat)) := hc.blk.cell 4
  have hg := hc.blk.lt
  generalize kc false bs bs.length = n at *
  by_cases h0 : k < 0
  · have hd : decide (k < 0) = true := decide_eq_true h0
    go_enter Tryd.func105, Tryd.ntmps105
    go_wp2
    go_ret2
    exact ⟨rfl, rfl⟩
  · have hd : decide (k < 0) = false := decide_eq_false h0
    have h1 : (n : Int) ≤ k := by omega
    go_enter Tryd.func105, Tryd.ntmps105
    go_wp2
    go_ret2
    exact ⟨rfl, rfl⟩

set_option maxHeartbeats 4000000 in
theorem chZero_at (g gd gx : Nat) (A : Option Addr) (c : Nat) (bs : List Bool) (Ad : Option Addr) (cd : Nat) (A1 : Option Addr) (c1 : Nat) (l1 : List Nat) (A0 : Option Addr) (c0 : Nat) (l0 : List Nat) (k p : Nat) (w : World)
    (hc : ChooserAt w g gd gx A c bs Ad cd A1 c1 l1 A0 c0 l0) (hT : Tab w) (hp : p < bs.length) (hb : bitAt bs p = false) (hk : kc false bs p = k) :
    Calls Tryd.prog 105 #[.pointer (some ⟨g, 0, none⟩), .int .i64 (k : Nat)] w fun e w' => e = .returned (.tuple #[.int .i64 (p : Nat), .int .i64 0]) ∧ Below w.heap.size w w' := by
  have k0 : w.cell? ⟨g, 0, none⟩ = some (.pointer (some ⟨gd, 0, none⟩)) := hc.blk.cell 0
  have k1 : w.cell? ⟨g, 3, none⟩ = some (.slice A0 l0.length c0) := hc.blk.cell 3
  have k2 : w.cell? ⟨g, 4, none⟩ = some (.int .i64 (kc false bs bs.length : Nat)) := hc.blk.cell 4
  have hg := hc.blk.lt
  have hkn : k < kc false bs bs.length := by rw [← hk]; exact kc_step false bs p bs.length hp hp hb
  have hki : ¬ ((kc false bs bs.length : Nat) : Int) ≤ (k : Int) := by omega
  have C1 : ∀ W, Below w.heap.size w W → Calls Tryd.prog 111 #[.pointer (some ⟨g, 0, none⟩), .agg #[.slice A0 l0.length c0, .int .i64 (kc false bs bs.length : Nat)], .int .i64 (k : Nat), .func (.func 133) #[.pointer (some ⟨gd, 0, none⟩)] #[]] W fun e w' =>
      ∃ q : Nat, e = .returned (.tuple #[.int .i64 (q : Nat), .int .i64 (k - kc false bs (64 * q) : Nat)]) ∧ kc false bs (64 * q) ≤ k ∧ k < kc false bs (64 * q + 64) ∧ Below w.heap.size w w' := fun W hW => by
    refine (find_choose false g gd gx A c bs Ad cd A0 c0 (kc false bs bs.length) l0 k W ((hW.cell (p := ⟨g, 0, none⟩) hg).trans k0) (by have := hW.size; omega) (hc.dir.below hW) (hc.zero.below hW) hc.half0 hkn).mono ?_
    rintro e w' ⟨q, rfl, h1, h2, hB⟩
    exact ⟨q, rfl, h1, h2, hW.trans (hB.mono hW.size)⟩
  have H1 := hid C1
  have KC := hid (show ∀ W, Below w.heap.size w W → W.cell? ⟨g, 0, none⟩ = some (.pointer (some ⟨gd, 0, none⟩)) ∧ W.cell? ⟨g, 3, none⟩ = some (.slice A0 l0.length c0) ∧ W.cell? ⟨g, 4, none⟩ = some (.int .i64 (kc false bs bs.length : Nat)) from fun W hW =>
    ⟨(hW.cell (p := ⟨g, 0, none⟩) hg).trans k0, (hW.cell (p := ⟨g, 3, none⟩) hg).trans k1, (hW.cell (p := ⟨g, 4, none⟩) hg).trans k2⟩)
  have hB0 := Below.refl w.heap.size w
  have hmf : ∀ (fn : Fn) (first cap : Array Value) (w : World), (Instr.makeFunc fn first cap).run Tryd.prog w = .ok (.func fn first cap) w := fun _ _ _ _ => rfl
  have HK := hid hk
  clear C1 hk
  generalize kc false bs bs.length = n at *
  go_enter Tryd.func105, Tryd.ntmps105
  go_wp2_with fail
  go_region_held3 (fun w' => Below w.heap.size w w' ∧ w'.cell? ⟨g, 0, none⟩ = some (.pointer (some ⟨gd, 0, none⟩)) ∧ w'.cell? ⟨g, 3, none⟩ = some (.slice A0 l0.length c0) ∧ w'.cell? ⟨g, 4, none⟩ = some (.int .i64 (n : Nat)))
    (first | exact ⟨hB0.drew, k0, k1, k2⟩ | exact ⟨e1, KC.out _ e1⟩ | assumption)
    (first
     | (go_at_call 111; refine (H1.out _ (by first | assumption | exact And.left (by assumption))).mono ?_; rintro e w5 ⟨q, rfl, hq1, hq2, e1⟩))
  all_goals
    have hk := HK.out
    obtain ⟨p1, p2⟩ := in_word hp hb hk hq1 hq2
    obtain ⟨j, rfl⟩ : ∃ j, p = 64 * q + j := ⟨p - 64 * q, by omega⟩
    have hj : j < 64 := by omega
    have hsl := sel_zero bs q j hj hp hb
    rw [hk] at hsl
    have hd5 := hc.dir.below e1
    have hr5 := hd5.row
    have hT5 := hT.below e1
    have hsm := hr5.small
    have hwl := wordAt_lt bs q
    have HW := hid (fun W hW => by have := rword_any gx A c bs (q : Nat) W hW; rw [wordI_nat] at this; exact this)
    have HS := hid (fun W hW => by have := select_any (comp (wordAt bs q)) ((k - kc false bs (64 * q) : Nat) : Int) W (comp_lt _) hW; rw [hsl] at this; exact this)
    have hxr := comp_xor (wordAt bs q) hwl
    have hq1' : kc false bs (64 * q) ≤ k := hq1
    have b1 := kc_le false bs (64 * q)
    clear hsl hk KC H1
    generalize kc false bs (64 * q) = kq at *
    generalize wordAt bs q = v at *
    go_wp2_with fail
    refine (rankRow_any _ _ _ _ _ _ _ _ hd5).mono ?_
    rintro e w' ⟨rfl, rfl⟩
    go_wp2_with fail
    refine (HW.out _ hr5).mono ?_
    rintro e w' ⟨rfl, rfl⟩
    go_wp2_with fail
    refine (HS.out _ hT5).mono ?_
    rintro e w' ⟨rfl, rfl⟩
    go_wp2
    go_ret2
    exact ⟨by rw [show ((64 * q + j : Nat) : Int) = (q : Int) * 64 + (j : Int) from by omega]; rfl, e1⟩

theorem chOnes_any (g gd gx : Nat) (A : Option Addr) (c : Nat) (bs : List Bool) (Ad : Option Addr) (cd : Nat) (A1 : Option Addr) (c1 : Nat) (l1 : List Nat) (A0 : Option Addr) (c0 : Nat) (l0 : List Nat) (w : World) (hc : ChooserAt w g gd gx A c bs Ad cd A1 c1 l1 A0 c0 l0) :
    Calls Tryd.prog 70 #[.pointer (some ⟨g, 0, none⟩)] w fun e w' => e = .returned (.int .i64 (kc true bs bs.length : Nat)) ∧ w = w' := by
  have k2 : w.cell? ⟨g, 2, none⟩ = some (.int .i64 (kc true bs bs.length : Nat)) := hc.blk.cell 2
  have hg := hc.blk.lt
  generalize kc true bs bs.length = n at *
  go_enter Tryd.func70, Tryd.ntmps70
  go_wp2
  go_ret
  exact ⟨rfl, rfl⟩

set_option maxHeartbeats 1000000 in
theorem chSize_any (g gd gx : Nat) (A : Option Addr) (c : Nat) (bs : List Bool) (Ad : Option Addr) (cd : Nat) (A1 : Option Addr) (c1 : Nat) (l1 : List Nat) (A0 : Option Addr) (c0 : Nat) (l0 : List Nat) (w : World) (hc : ChooserAt w g gd gx A c bs Ad cd A1 c1 l1 A0 c0 l0) :
    Calls Tryd.prog 87 #[.pointer (some ⟨g, 0, none⟩)] w fun e w' => e = .returned (.int .i64 (128 * (bs.length / 512 + 1) + 64 * (l1.length + l0.length) : Nat)) ∧ ∃ m, w' = w.drewN m := by
  have hsm := hc.dir.row.small
  have k0 : w.cell? ⟨g, 0, none⟩ = some (.pointer (some ⟨gd, 0, none⟩)) := hc.blk.cell 0
  have k1 : w.cell? ⟨g, 1, none⟩ = some (.slice A1 l1.length c1) := hc.blk.cell 1
  have k3 : w.cell? ⟨g, 3, none⟩ = some (.slice A0 l0.length c0) := hc.blk.cell 3
  have hg := hc.blk.lt
  have b1 := hc.half1.1
  have b0 := hc.half0.1
  have c1' := kc_le true bs bs.length
  have c0' := kc_le false bs bs.length
  have d1 : l1.length ≤ 67108864 := by omega
  have d0 : l0.length ≤ 67108864 := by omega
  have HS := hid (fun W hW => rankSize_any gd gx A c bs Ad cd W hW)
  have hd := hc.dir
  clear b1 b0 c1' c0'
  generalize l1.length = a1 at *
  generalize l0.length = a0 at *
  have r1 : IntKind.i64.wrap ((a1 : Int) + (a0 : Int)) = (a1 : Int) + (a0 : Int) := by rw [IntKind.wrap_i64]; omega
  have r2 : IntKind.i64.wrap (64 * ((a1 : Int) + (a0 : Int))) = 64 * ((a1 : Int) + (a0 : Int)) := by rw [IntKind.wrap_i64]; omega
  go_enter Tryd.func87, Tryd.ntmps87
  go_wp2
  go_quiet ((go_at_call 125; exact quiet_left (HS.out _ (by exact hd))))
  go_wp2
  go_ret
  exact ⟨by rw [show ((128 * (bs.length / 512 + 1) + 64 * (a1 + a0) : Nat) : Int) = 128 * ((bs.length : Int) / 512 + 1) + 64 * ((a1 : Int) + (a0 : Int)) from by omega]; rfl, _, rfl⟩

end Go.Proofs.YtlpnbkfcbamnbaaDoor
