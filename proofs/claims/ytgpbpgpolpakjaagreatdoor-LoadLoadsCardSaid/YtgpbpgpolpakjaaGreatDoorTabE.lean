/- Proof text. -/
import Derived.Test.YtgpbpgpolpakjaaGreatDoorTabP
import Derived.Test.YtgpbpgpolpakjaaGreatDoorSplitP
set_option maxHeartbeats 16000000
set_option linter.unusedVariables false
set_option linter.unusedSimpArgs false
set_option maxRecDepth 100000
namespace Go.Proofs.YtgpbpgpolpakjaaGreatDoor
open Go.RowKit Go.Shelf L
def entV (x : EntI) : List Value := [.int .i64 x.a, .int .i64 x.b, .int .i64 x.v, .int .i64 x.p, .string x.s]
def entC (es : List EntI) : List Value := es.flatMap entV
theorem zgj (es : List EntI) (x : EntI) : entC (es ++ [x]) = entC es ++ entV x := by unfold entC; rw [List.flatMap_append]; simp
theorem zvr (es : List EntI) : (entC es).length = es.length * 5 := by
 induction es with
 | nil => rfl
 | cons r rs ih => unfold entC at *; simp only [List.flatMap_cons, List.length_append, List.length_cons, ih]; show 5 + _ = _; omega
theorem zdm {w : World} {A : Option Addr} {xs : List EntI} (h : Lst w A (entC xs)) {i : Nat} (hi : i < xs.length) : ∃ g o, A = some ⟨g, o, none⟩ ∧ g < w.heap.size ∧ w.cell? ⟨g, o + i * 5, none⟩ = some (.int .i64 xs[i].a) ∧ w.cell? ⟨g, o + i * 5 + 1, none⟩ = some (.int .i64 xs[i].b) ∧ w.cell? ⟨g, o + i * 5 + 2, none⟩ = some (.int .i64 xs[i].v) ∧ w.cell? ⟨g, o + i * 5 + 3, none⟩ = some (.int .i64 xs[i].p) ∧ w.cell? ⟨g, o + i * 5 + 4, none⟩ = some (.string xs[i].s) := by
 obtain ⟨g, o, rfl, hg, hc⟩ := h.litS (by rw [zvr]; omega)
 exact ⟨g, o, rfl, hg, hc (i * 5) _ (flat_get (f := entV) (k := 5) (fun _ => rfl) xs i 0 hi (by omega)), hc (i * 5 + 1) _ (flat_get (f := entV) (k := 5) (fun _ => rfl) xs i 1 hi (by omega)),
  hc (i * 5 + 2) _ (flat_get (f := entV) (k := 5) (fun _ => rfl) xs i 2 hi (by omega)), hc (i * 5 + 3) _ (flat_get (f := entV) (k := 5) (fun _ => rfl) xs i 3 hi (by omega)), hc (i * 5 + 4) _ (flat_get (f := entV) (k := 5) (fun _ => rfl) xs i 4 hi (by omega))⟩
def ze6 (t : TabN) (w : World) (e : Ending) (w' : World) : Prop := ∃ ok, e = .returned (.bool ok) ∧ (ok = true ↔ zae t) ∧ Below w.heap.size w w'
theorem zuf {size : Int} {es : List EntI} {j : Nat} (hj : j < es.length) (h : ∀ i (hi : i < es.length), i < j → zdc (zbv es i) size es[i]) (h2 : zdc (zbv es j) size es[j]) : ∀ i (hi : i < es.length), i < j + 1 → zdc (zbv es i) size es[i] := fun i hi hij => by
 rcases Nat.lt_or_ge i j with h' | h'
 ·exact h i hi h'
 ·obtain rfl : i = j := by omega
  exact h2
theorem zog {s : ByteArray} (h : s.size ≠ 0) : s.toList.isEmpty = false := by
 rw [ByteArray.toList_eq]
 cases e : s.data.toList with
 | nil => exact absurd (by rw [← zan, e]; rfl) h
 | cons a l => rfl
theorem zpj {s : ByteArray} (h : s.size = 0) : s = ⟨#[]⟩ := by
 apply ByteArray.ext
 exact Array.eq_empty_of_size_eq_zero h
theorem zjo (deep size : Int) (A : Option Addr) (c : Nat) (es : List EntI) (w : World) (hl : Lst w A (entC es)) (hn : es.length ≤ 1000000) :
  Calls Tryz.prog 120 #[.agg #[.int .i64 deep, .int .i64 size, .slice A es.length c]] w (ze6 ⟨deep, size, es⟩ w) := by
 have HF := hid (show ∀ w', Below w.heap.size w w' → ¬ zae ⟨deep, size, es⟩ → ze6 ⟨deep, size, es⟩ w (.returned (.bool false)) w' from fun w' h1 h2 => ⟨false, rfl, ⟨fun h => (by cases h), fun h => absurd h h2⟩, h1⟩)
 have HY := hid (show ∀ w', Below w.heap.size w w' → zae ⟨deep, size, es⟩ → ze6 ⟨deep, size, es⟩ w (.returned (.bool true)) w' from fun w' h1 h2 => ⟨true, rfl, ⟨fun _ => h2, fun _ => rfl⟩, h1⟩)
 have HW := hid (fun n a b W => zdu n a b W)
 have hX0 := za.new w 107 #[.int .i64 deep, .int .i64 size, .slice A es.length c]
 have hB0 : Below w.heap.size w (w.alloc (.cells #[.int .i64 deep, .int .i64 size, .slice A es.length c] 107)) := (Below.refl _ _).alloc (Nat.le_refl _) _
 have hl0 := hl.below hB0
 have x0 := hX0.cell 0
 have x1 := hX0.cell 1
 have x2 := hX0.cell 2
 go_enter Tryz.func120, Tryz.ntmps120
 go_wp2_with fail
 generalize (w.alloc (.cells #[.int .i64 deep, .int .i64 size, .slice A es.length c] 107)) = W0 at *
 by_cases h1 : 1 ≤ deep ∧ deep ≤ 4096
 case neg =>
  have HN := hid (show ¬ zae ⟨deep, size, es⟩ from fun h => h1 ⟨h.1, h.2.1⟩)
  have e1 : decide (1 ≤ deep ∧ deep ≤ 4096) = false := decide_eq_false h1
  refine (HW.out _ _ _ _).mono ?_
  rintro e w' ⟨rfl, rfl⟩
  rw [e1]
  go_wp2_with fail
  go_ret
  exact HF.out _ hB0 HN.out
 have e1 : decide (1 ≤ deep ∧ deep ≤ 4096) = true := decide_eq_true h1
 refine (HW.out _ _ _ _).mono ?_
 rintro e w' ⟨rfl, rfl⟩
 rw [e1]
 go_wp2_with fail
 by_cases h2 : 0 ≤ size ∧ size ≤ 1048576
 case neg =>
  have HN := hid (show ¬ zae ⟨deep, size, es⟩ from fun h => h2 ⟨h.2.2.1, h.2.2.2.1⟩)
  have e2 : decide (0 ≤ size ∧ size ≤ 1048576) = false := decide_eq_false h2
  refine (HW.out _ _ _ _).mono ?_
  rintro e w' ⟨rfl, rfl⟩
  rw [e2]
  go_wp2_with fail
  go_ret
  exact HF.out _ hB0 HN.out
 have e2 : decide (0 ≤ size ∧ size ≤ 1048576) = true := decide_eq_true h2
 refine (HW.out _ _ _ _).mono ?_
 rintro e w' ⟨rfl, rfl⟩
 rw [e2]
 by_cases h3 : 4096 < es.length
 ·have h3I : (4096 : Int) < (es.length : Int) := by omega
  have HN := hid (show ¬ zae ⟨deep, size, es⟩ from fun h => by have : es.length ≤ 4096 := h.2.2.2.2.1; omega)
  go_wp2_with fail
  go_ret
  exact HF.out _ hB0 HN.out
 have h3I : ¬ (4096 : Int) < (es.length : Int) := by omega
 have hz0 := hB0.size
 have HD := hid (show ∀ (hE : zob size es), zae ⟨deep, size, es⟩ from fun hE => ⟨h1.1, h1.2, h2.1, h2.2, by show es.length ≤ 4096; omega, hE⟩)
 clear h1 h2 e1 e2 HW
 go_wp2_with fail
 go_loopw [3, 26] (fun at_ i wr => ∃ j : Nat, j ≤ es.length ∧ at_ = .int .i64 (zbv es j) ∧ i = .int .i64 (j : Nat) ∧ Below W0.heap.size W0 wr ∧ 0 ≤ zbv es j ∧ Hid (∀ i (hi : i < es.length), i < j → zdc (zbv es i) size es[i])) (fun _ i _ => es.length - (intOf i).toNat)
 case atStart => exact ⟨0, by omega, rfl, rfl, Below.refl _ _, Int.le_refl _, hid (fun i hi h => by omega)⟩
 case round =>
  obtain ⟨j, hj, rfl, rfl, hB, hp0, hI⟩ := hrel
  have hz := hB.size
  have hX1 := za.below hX0 hB
  have x0 := hX1.cell 0
  have x1 := hX1.cell 1
  have x2 := hX1.cell 2
  have hBw := hB0.trans (hB.mono hz0)
  rcases Nat.lt_or_ge j es.length with hlt | hge
  ·have hjI : (j : Int) < (es.length : Int) := by omega
   have hj0 : (0 : Int) ≤ (j : Int) := by omega
   have hjW := zg j (by omega)
   obtain ⟨g, o, rfl, hg, k0, k1, k2, k3, k4⟩ := zdm (hl0.below hB) hlt
   have HG := hid (show zae ⟨deep, size, es⟩ → zdc (zbv es j) size es[j] from fun h => h.2.2.2.2.2 j hlt)
   have HT := hid (zuf hlt hI.out)
   have HP := hid (zjc es j hlt)
   clear hI
   generalize es[j] = x at *
   generalize zbv es j = at_ at *
   obtain ⟨xa, xb, xv, xp, xs⟩ := x
   dsimp only at k0 k1 k2 k3 k4 HP
   unfold zdc at HG HT
   dsimp only at HG HT
   have hzw := hBw.size
   have hzl : w.heap.size < wr.heap.size := hX1.lt
   have y1 : ∀ o1 o2 : Obj, ((wr.alloc o1).alloc o2).cell? ⟨w.heap.size, 1, none⟩ = some (.int .i64 size) := fun o1 o2 => ((hX1.alloc o1).alloc o2).cell 1
   have hBa : ∀ o1 o2 : Obj, Below w.heap.size w ((wr.alloc o1).alloc o2) := fun o1 o2 => (hBw.alloc hzw o1).alloc (by simp; omega) o2
   by_cases c1 : xa < at_
   ·have HN := hid (show ¬ zae ⟨deep, size, es⟩ from fun h => by have := HG.out h; omega)
    go_wp2_with fail
    go_ret
    exact HF.out _ (hBa _ _) HN.out
   by_cases c2 : xb < xa
   ·have HN := hid (show ¬ zae ⟨deep, size, es⟩ from fun h => by have := HG.out h; omega)
    go_wp2_with fail
    go_ret
    exact HF.out _ (hBa _ _) HN.out
   by_cases c3 : size < xb
   ·have HN := hid (show ¬ zae ⟨deep, size, es⟩ from fun h => by have := HG.out h; omega)
    go_wp2_with fail
    go_ret
    exact HF.out _ (hBa _ _) HN.out
   by_cases c4 : 1 ≤ xv ∧ xv ≤ 4
   case neg =>
    have HN := hid (show ¬ zae ⟨deep, size, es⟩ from fun h => by have := HG.out h; omega)
    have HW4 := hid (fun W => zdu xv 1 4 W)
    rw [decide_eq_false c4] at HW4
    go_wp2_with fail
    refine (HW4.out _).mono ?_
    rintro e w' ⟨rfl, rfl⟩
    go_wp2_with fail
    go_ret
    exact HF.out _ (hBa _ _) HN.out
   have HW4 := hid (fun W => zdu xv 1 4 W)
   rw [decide_eq_true c4] at HW4
   by_cases c5 : 0 ≤ xp ∧ xp ≤ 65536
   case neg =>
    have HN := hid (show ¬ zae ⟨deep, size, es⟩ from fun h => by have := HG.out h; omega)
    have HW5 := hid (fun W => zdu xp 0 65536 W)
    rw [decide_eq_false c5] at HW5
    go_wp2_with fail
    refine (HW4.out _).mono ?_
    rintro e w' ⟨rfl, rfl⟩
    go_wp2_with fail
    refine (HW5.out _).mono ?_
    rintro e w' ⟨rfl, rfl⟩
    go_wp2_with fail
    go_ret
    exact HF.out _ (hBa _ _) HN.out
   have HW5 := hid (fun W => zdu xp 0 65536 W)
   rw [decide_eq_true c5] at HW5
   have HC := hid (And.intro c4 c5)
   clear c4 c5
   by_cases c6 : 1048576 < xs.size
   ·have c6I : (1048576 : Int) < (xs.size : Int) := by omega
    have HN := hid (show ¬ zae ⟨deep, size, es⟩ from fun h => by have := HG.out h; omega)
    go_wp2_with fail
    refine (HW4.out _).mono ?_
    rintro e w' ⟨rfl, rfl⟩
    go_wp2_with fail
    refine (HW5.out _).mono ?_
    rintro e w' ⟨rfl, rfl⟩
    go_wp2_with fail
    go_ret
    exact HF.out _ (hBa _ _) HN.out
   have c6I : ¬ (1048576 : Int) < (xs.size : Int) := by omega
   by_cases c7 : xv = 1
   ·subst c7
    have HE := hid (show ∀ i (hi : i < es.length), i < j + 1 → zdc (zbv es i) size es[i] from HT.out (by have := HC.out; omega))
    have HQ := hid (show 0 ≤ zbv es (j + 1) from by rw [HP.out]; omega)
    go_wp2_with fail
    refine (HW4.out _).mono ?_
    rintro e w' ⟨rfl, rfl⟩
    go_wp2_with fail
    refine (HW5.out _).mono ?_
    rintro e w' ⟨rfl, rfl⟩
    go_wp2_with fail
    go_roundw
    case rel => exact ⟨j + 1, by omega, by rw [HP.out], by go_num, (hB.alloc hz _).alloc (by simp; omega) _, HQ.out, HE⟩
    case measure => simp [intOf]; omega
   ·have c7b : (xv != 1) = true := by rw [bne_iff_ne]; exact c7
    by_cases c8 : xs.size = 0
    ·have HE := hid (show ∀ i (hi : i < es.length), i < j + 1 → zdc (zbv es i) size es[i] from HT.out (by have := HC.out; omega))
     have HQ := hid (show 0 ≤ zbv es (j + 1) from by rw [HP.out]; omega)
     obtain rfl := zpj c8
     go_wp2_with fail
     refine (HW4.out _).mono ?_
     rintro e w' ⟨rfl, rfl⟩
     go_wp2_with fail
     refine (HW5.out _).mono ?_
     rintro e w' ⟨rfl, rfl⟩
     go_wp2_with fail
     go_roundw
     case rel => exact ⟨j + 1, by omega, by rw [HP.out], by go_num, (hB.alloc hz _).alloc (by simp; omega) _, HQ.out, HE⟩
     case measure => simp [intOf]; omega
    ·have HN := hid (show ¬ zae ⟨deep, size, es⟩ from fun h => by have := HG.out h; omega)
     have c8b : (xs.toList == (ByteArray.mk #[]).toList) = false := by
      rw [beq_eq_false_iff_ne]
      intro e
      rw [ByteArray.toList_eq, ByteArray.toList_eq] at e
      apply c8
      rw [← zan, e]; rfl
     have c8e := zog c8
     go_wp2_with fail
     refine (HW4.out _).mono ?_
     rintro e w' ⟨rfl, rfl⟩
     go_wp2_with fail
     refine (HW5.out _).mono ?_
     rintro e w' ⟨rfl, rfl⟩
     go_wp2_with fail
     go_ret
     exact HF.out _ (hBa _ _) HN.out
  ·obtain rfl : j = es.length := by omega
   have HY2 := hid (HD.out (fun i hi => hI.out i hi hi))
   clear hI
   go_wp2_with fail
   go_ret
   exact HY.out _ hBw HY2.out
end Go.Proofs.YtgpbpgpolpakjaaGreatDoor
