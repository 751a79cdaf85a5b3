/- Proof text. -/
import Derived.Test.YtgpbpgpolpakjaaGreatDoorTabE
set_option maxHeartbeats 16000000
set_option linter.unusedVariables false
set_option linter.unusedSimpArgs false
set_option maxRecDepth 100000
namespace Go.Proofs.YtgpbpgpolpakjaaGreatDoor
open Go.RowKit Go.Shelf L
theorem zok (deep size : Int) (A : Option Addr) (c : Nat) (es : List EntI) (w : World) (hl : Lst w A (entC es)) (hn : es.length ≤ 1000000) :
  Calls Tryz.prog 125 #[.agg #[.int .i64 deep, .int .i64 size, .slice A es.length c]] w (ze6 ⟨deep, size, es⟩ w) := by
 have HF := hid (show ∀ w', Below w.heap.size w w' → ¬ zae ⟨deep, size, es⟩ → ze6 ⟨deep, size, es⟩ w (.returned (.bool false)) w' from fun w' h1 h2 => ⟨false, rfl, ⟨fun h => (by cases h), fun h => absurd h h2⟩, h1⟩)
 have HY := hid (show ∀ w', Below w.heap.size w w' → zae ⟨deep, size, es⟩ → ze6 ⟨deep, size, es⟩ w (.returned (.bool true)) w' from fun w' h1 h2 => ⟨true, rfl, ⟨fun _ => h2, fun _ => rfl⟩, h1⟩)
 have hX0 := za.new w 107 #[.int .i64 deep, .int .i64 size, .slice A es.length c]
 have hB0 : Below w.heap.size w (w.alloc (.cells #[.int .i64 deep, .int .i64 size, .slice A es.length c] 107)) := (Below.refl _ _).alloc (Nat.le_refl _) _
 have hl0 := hl.below hB0
 have x0 := hX0.cell 0
 have x1 := hX0.cell 1
 have x2 := hX0.cell 2
 go_enter Tryz.func125, Tryz.ntmps125
 by_cases h1 : deep < 1
 ·have d_h1 := decide_eq_true h1
  have HN := hid (show ¬ zae ⟨deep, size, es⟩ from fun h => by have : 1 ≤ deep := h.1; omega)
  go_wp2_with fail
  go_ret
  exact HF.out _ hB0 HN.out
 have d_h1 := decide_eq_false h1
 by_cases h1b : 4096 < deep
 ·have d_h1b := decide_eq_true h1b
  have HN := hid (show ¬ zae ⟨deep, size, es⟩ from fun h => by have : deep ≤ 4096 := h.2.1; omega)
  go_wp2_with fail
  go_ret
  exact HF.out _ hB0 HN.out
 have d_h1b := decide_eq_false h1b
 by_cases h2 : size < 0
 ·have d_h2 := decide_eq_true h2
  have HN := hid (show ¬ zae ⟨deep, size, es⟩ from fun h => by have : 0 ≤ size := h.2.2.1; omega)
  go_wp2_with fail
  go_ret
  exact HF.out _ hB0 HN.out
 have d_h2 := decide_eq_false h2
 by_cases h2b : 1048576 < size
 ·have d_h2b := decide_eq_true h2b
  have HN := hid (show ¬ zae ⟨deep, size, es⟩ from fun h => by have : size ≤ 1048576 := h.2.2.2.1; omega)
  go_wp2_with fail
  go_ret
  exact HF.out _ hB0 HN.out
 have d_h2b := decide_eq_false h2b
 by_cases h3 : 4096 < es.length
 ·have h3I : (4096 : Int) < (es.length : Int) := by omega
  have d_h3 := decide_eq_true h3I
  have HN := hid (show ¬ zae ⟨deep, size, es⟩ from fun h => by have : es.length ≤ 4096 := h.2.2.2.2.1; omega)
  go_wp2_with fail
  go_ret
  exact HF.out _ hB0 HN.out
 have h3I : ¬ (4096 : Int) < (es.length : Int) := by omega
 have d_h3 := decide_eq_false h3I
 have hz0 := hB0.size
 have HD := hid (show ∀ (hE : zob size es), zae ⟨deep, size, es⟩ from fun hE => ⟨by show 1 ≤ deep; omega, by show deep ≤ 4096; omega, by show 0 ≤ size; omega, by show size ≤ 1048576; omega, by show es.length ≤ 4096; omega, hE⟩)
 go_wp2_with fail
 generalize (w.alloc (.cells #[.int .i64 deep, .int .i64 size, .slice A es.length c] 107)) = W0 at *
 clear h1 h1b h2 h2b
 go_loopw [3] (fun i wr => ∃ j : Nat, j ≤ es.length ∧ i = .int .i64 (j : Nat) ∧ Below W0.heap.size W0 wr ∧ Hid (∀ i (hi : i < es.length), i < j → zdc (zbv es i) size es[i])) (fun i _ => es.length - (intOf i).toNat)
 case atStart => exact ⟨0, by omega, rfl, Below.refl _ _, hid (fun i hi h => by omega)⟩
 case round =>
  obtain ⟨j, hj, rfl, hB, hI⟩ := hrel
  have hz := hB.size
  have hX1 := za.below hX0 hB
  have x0 := hX1.cell 0
  have x1 := hX1.cell 1
  have x2 := hX1.cell 2
  have hBw := hB0.trans (hB.mono hz0)
  rcases Nat.lt_or_ge j es.length with hlt | hge
  ·have hjI : (j : Int) < (es.length : Int) := by omega
   have hj0 : (0 : Int) ≤ (j : Int) := by omega
   have hjW := zg j (by omega)
   have hlw := hl0.below hB
   obtain ⟨g, o, rfl, hg, k0, k1, k2, k3, k4⟩ := zdm hlw hlt
   have HG := hid (show zae ⟨deep, size, es⟩ → zdc (zbv es j) size es[j] from fun h => h.2.2.2.2.2 j hlt)
   have HT := hid (zuf hlt hI.out)
   have HPV := hid (show ∀ k, j = k + 1 → (wr.cell? ⟨g, o + k * 5 + 1, none⟩ = some (.int .i64 (zbv es j))) from fun k hk => by
    subst hk
    obtain ⟨g2, o2, e, _, _, q1, _⟩ := zdm hlw (i := k) (by omega)
    injection e with e
    injection e with e1 e2
    subst e1; subst e2
    rw [zjc es k (by omega)]; exact q1)
   have HP0 := hid (show j = 0 → zbv es j = 0 from fun h => by rw [h]; rfl)
   clear hI
   generalize es[j] = x at *
   generalize zbv es j = at_ at *
   obtain ⟨xa, xb, xv, xp, xs⟩ := x
   dsimp only at k0 k1 k2 k3 k4
   unfold zdc at HG HT
   dsimp only at HG HT
   have hzw := hBw.size
   have hzl : w.heap.size < wr.heap.size := hX1.lt
   have y1 : ∀ o1 : Obj, (wr.alloc o1).cell? ⟨w.heap.size, 1, none⟩ = some (.int .i64 size) := fun o1 => (hX1.alloc o1).cell 1
   have y2 : ∀ o1 : Obj, (wr.alloc o1).cell? ⟨w.heap.size, 2, none⟩ = some (.slice (some ⟨g, o, none⟩) es.length c) := fun o1 => (hX1.alloc o1).cell 2
   have hBa : ∀ o1 : Obj, Below w.heap.size w (wr.alloc o1) := fun o1 => hBw.alloc hzw o1
   rcases Nat.eq_zero_or_pos j with hj1 | hj1
   ·obtain rfl := HP0.out hj1
    subst hj1
    simp only [Nat.zero_mul, Nat.add_zero] at k0 k1 k2 k3 k4
    by_cases c1 : xa < 0
    ·have d_c1 := decide_eq_true c1
     have HN := hid (show ¬ zae ⟨deep, size, es⟩ from fun h => by have := HG.out h; omega)
     go_wp2_with fail
     go_ret
     exact HF.out _ (hBa _) HN.out
    have d_c1 := decide_eq_false c1
    by_cases c2 : xb < xa
    ·have d_c2 := decide_eq_true c2
     have HN := hid (show ¬ zae ⟨deep, size, es⟩ from fun h => by have := HG.out h; omega)
     go_wp2_with fail
     go_ret
     exact HF.out _ (hBa _) HN.out
    have d_c2 := decide_eq_false c2
    by_cases c3 : size < xb
    ·have d_c3 := decide_eq_true c3
     have HN := hid (show ¬ zae ⟨deep, size, es⟩ from fun h => by have := HG.out h; omega)
     go_wp2_with fail
     go_ret
     exact HF.out _ (hBa _) HN.out
    have d_c3 := decide_eq_false c3
    by_cases c4 : xv < 1
    ·have d_c4 := decide_eq_true c4
     have HN := hid (show ¬ zae ⟨deep, size, es⟩ from fun h => by have := HG.out h; omega)
     go_wp2_with fail
     go_ret
     exact HF.out _ (hBa _) HN.out
    have d_c4 := decide_eq_false c4
    by_cases c4b : 4 < xv
    ·have d_c4b := decide_eq_true c4b
     have HN := hid (show ¬ zae ⟨deep, size, es⟩ from fun h => by have := HG.out h; omega)
     go_wp2_with fail
     go_ret
     exact HF.out _ (hBa _) HN.out
    have d_c4b := decide_eq_false c4b
    by_cases c5 : xp < 0
    ·have d_c5 := decide_eq_true c5
     have HN := hid (show ¬ zae ⟨deep, size, es⟩ from fun h => by have := HG.out h; omega)
     go_wp2_with fail
     go_ret
     exact HF.out _ (hBa _) HN.out
    have d_c5 := decide_eq_false c5
    by_cases c5b : 65536 < xp
    ·have d_c5b := decide_eq_true c5b
     have HN := hid (show ¬ zae ⟨deep, size, es⟩ from fun h => by have := HG.out h; omega)
     go_wp2_with fail
     go_ret
     exact HF.out _ (hBa _) HN.out
    have d_c5b := decide_eq_false c5b
    by_cases c6 : 1048576 < xs.size
    ·have c6I : (1048576 : Int) < (xs.size : Int) := by omega
     have d_c6 := decide_eq_true c6I
     have HN := hid (show ¬ zae ⟨deep, size, es⟩ from fun h => by have := HG.out h; omega)
     go_wp2_with fail
     go_ret
     exact HF.out _ (hBa _) HN.out
    have c6I : ¬ (1048576 : Int) < (xs.size : Int) := by omega
    have d_c6 := decide_eq_false c6I
    by_cases c8 : xs.size = 0
    ·have HE := hid (show ∀ i (hi : i < es.length), i < 0 + 1 → zdc (zbv es i) size es[i] from HT.out (by omega))
     have c8I : ¬ (0 : Int) < (xs.size : Int) := by omega
     have d_c8 := decide_eq_false c8I
     clear c1 c2 c3 c4 c4b c5 c5b c8
     go_wp2_with fail
     go_roundw
     case rel => exact ⟨0 + 1, by omega, by go_num, hB.alloc hz _, HE⟩
     case measure => simp [intOf]; omega
    have c8I : (0 : Int) < (xs.size : Int) := by omega
    have d_c8 := decide_eq_true c8I
    by_cases c7 : xv = 1
    ·subst c7
     have HE := hid (show ∀ i (hi : i < es.length), i < 0 + 1 → zdc (zbv es i) size es[i] from HT.out (by omega))
     clear c1 c2 c3 c5 c5b c8
     go_wp2_with fail
     go_roundw
     case rel => exact ⟨0 + 1, by omega, by go_num, hB.alloc hz _, HE⟩
     case measure => simp [intOf]; omega
    have c7b : (xv != 1) = true := by rw [bne_iff_ne]; exact c7
    have HN := hid (show ¬ zae ⟨deep, size, es⟩ from fun h => by have := HG.out h; omega)
    go_wp2_with fail
    go_ret
    exact HF.out _ (hBa _) HN.out
   ·obtain ⟨k, rfl⟩ : ∃ k, j = k + 1 := ⟨j - 1, by omega⟩
    have kp := HPV.out k rfl
    have hk1 : ((k + 1 : Nat) : Int) - 1 = (k : Int) := by omega
    have hk2 : (0 : Int) < ((k + 1 : Nat) : Int) := by omega
    have hk3 : (k : Int) < (es.length : Int) := by omega
    have hk4 : (0 : Int) ≤ (k : Int) := by omega
    have kq : ∀ o1 : Obj, (wr.alloc o1).cell? ⟨g, o + k * 5 + 1, none⟩ = some (.int .i64 at_) := fun o1 => ((Below.refl wr.heap.size wr).alloc (Nat.le_refl _) o1 |>.cell (p := ⟨g, o + k * 5 + 1, none⟩) hg).trans kp
    by_cases c1 : xa < at_
    ·have d_c1 := decide_eq_true c1
     have HN := hid (show ¬ zae ⟨deep, size, es⟩ from fun h => by have := HG.out h; omega)
     go_wp2_with fail
     go_ret
     exact HF.out _ (hBa _) HN.out
    have d_c1 := decide_eq_false c1
    by_cases c1b : xa < 0
    ·have d_c1b := decide_eq_true c1b
     have HN := hid (show ¬ zae ⟨deep, size, es⟩ from fun h => by have := HG.out h; omega)
     go_wp2_with fail
     go_ret
     exact HF.out _ (hBa _) HN.out
    have d_c1b := decide_eq_false c1b
    by_cases c2 : xb < xa
    ·have d_c2 := decide_eq_true c2
     have HN := hid (show ¬ zae ⟨deep, size, es⟩ from fun h => by have := HG.out h; omega)
     go_wp2_with fail
     go_ret
     exact HF.out _ (hBa _) HN.out
    have d_c2 := decide_eq_false c2
    by_cases c3 : size < xb
    ·have d_c3 := decide_eq_true c3
     have HN := hid (show ¬ zae ⟨deep, size, es⟩ from fun h => by have := HG.out h; omega)
     go_wp2_with fail
     go_ret
     exact HF.out _ (hBa _) HN.out
    have d_c3 := decide_eq_false c3
    by_cases c4 : xv < 1
    ·have d_c4 := decide_eq_true c4
     have HN := hid (show ¬ zae ⟨deep, size, es⟩ from fun h => by have := HG.out h; omega)
     go_wp2_with fail
     go_ret
     exact HF.out _ (hBa _) HN.out
    have d_c4 := decide_eq_false c4
    by_cases c4b : 4 < xv
    ·have d_c4b := decide_eq_true c4b
     have HN := hid (show ¬ zae ⟨deep, size, es⟩ from fun h => by have := HG.out h; omega)
     go_wp2_with fail
     go_ret
     exact HF.out _ (hBa _) HN.out
    have d_c4b := decide_eq_false c4b
    by_cases c5 : xp < 0
    ·have d_c5 := decide_eq_true c5
     have HN := hid (show ¬ zae ⟨deep, size, es⟩ from fun h => by have := HG.out h; omega)
     go_wp2_with fail
     go_ret
     exact HF.out _ (hBa _) HN.out
    have d_c5 := decide_eq_false c5
    by_cases c5b : 65536 < xp
    ·have d_c5b := decide_eq_true c5b
     have HN := hid (show ¬ zae ⟨deep, size, es⟩ from fun h => by have := HG.out h; omega)
     go_wp2_with fail
     go_ret
     exact HF.out _ (hBa _) HN.out
    have d_c5b := decide_eq_false c5b
    by_cases c6 : 1048576 < xs.size
    ·have c6I : (1048576 : Int) < (xs.size : Int) := by omega
     have d_c6 := decide_eq_true c6I
     have HN := hid (show ¬ zae ⟨deep, size, es⟩ from fun h => by have := HG.out h; omega)
     go_wp2_with fail
     go_ret
     exact HF.out _ (hBa _) HN.out
    have c6I : ¬ (1048576 : Int) < (xs.size : Int) := by omega
    have d_c6 := decide_eq_false c6I
    by_cases c8 : xs.size = 0
    ·have HE := hid (show ∀ i (hi : i < es.length), i < k + 1 + 1 → zdc (zbv es i) size es[i] from HT.out (by omega))
     have c8I : ¬ (0 : Int) < (xs.size : Int) := by omega
     have d_c8 := decide_eq_false c8I
     clear c1 c1b c2 c3 c4 c4b c5 c5b c8
     go_wp2_with fail
     go_roundw
     case rel => exact ⟨k + 1 + 1, by omega, by go_num, hB.alloc hz _, HE⟩
     case measure => simp [intOf]; omega
    have c8I : (0 : Int) < (xs.size : Int) := by omega
    have d_c8 := decide_eq_true c8I
    by_cases c7 : xv = 1
    ·subst c7
     have HE := hid (show ∀ i (hi : i < es.length), i < k + 1 + 1 → zdc (zbv es i) size es[i] from HT.out (by omega))
     clear c1 c1b c2 c3 c5 c5b c8
     go_wp2_with fail
     go_roundw
     case rel => exact ⟨k + 1 + 1, by omega, by go_num, hB.alloc hz _, HE⟩
     case measure => simp [intOf]; omega
    have c7b : (xv != 1) = true := by rw [bne_iff_ne]; exact c7
    have HN := hid (show ¬ zae ⟨deep, size, es⟩ from fun h => by have := HG.out h; omega)
    go_wp2_with fail
    go_ret
    exact HF.out _ (hBa _) HN.out
  ·obtain rfl : j = es.length := by omega
   have HY2 := hid (HD.out (fun i hi => hI.out i hi hi))
   clear hI
   go_wp2_with fail
   go_ret
   exact HY.out _ hBw HY2.out
end Go.Proofs.YtgpbpgpolpakjaaGreatDoor
