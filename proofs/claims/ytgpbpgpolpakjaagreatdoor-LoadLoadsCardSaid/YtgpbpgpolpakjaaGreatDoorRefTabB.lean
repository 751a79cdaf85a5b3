/- Proof text. -/
import Derived.Test.YtgpbpgpolpakjaaGreatDoorRefTabP
set_option maxHeartbeats 8000000
set_option linter.unusedVariables false
set_option linter.unusedSimpArgs false
set_option maxRecDepth 100000
namespace Go.Proofs.YtgpbpgpolpakjaaGreatDoor
open Go.RowKit Go.Shelf L
def L.bs (l : List UInt8) : ByteArray := ⟨l.toArray⟩
theorem L.zc4 (l : List UInt8) : (bs l).size = l.length := by show l.toArray.size = _; exact List.size_toArray
theorem L.zgk (a b : List UInt8) : bs a ++ bs b = bs (a ++ b) := by
 apply ByteArray.ext
 apply Array.toList_inj.1
 rw [ByteArray.data_append, Array.toList_append]
 unfold bs
 simp
theorem L.z4w (s : ByteArray) : bs s.data.toList = s := by apply ByteArray.ext; apply Array.toList_inj.1; unfold bs; simp
theorem zjr (t : TabN) (A : Option Addr) (c : Nat) (w : World) (hl : Lst w A (entC t.es)) (hf : zae t) (hL : (zak t).length ≤ 1000000000) :
  Calls Tryz.prog 126 #[.agg #[.int .i64 t.deep, .int .i64 t.size, .slice A t.es.length c]] w fun e w' => e = .returned (.string (bs (zak t))) ∧ Below w.heap.size w w' := by
 obtain ⟨f1, f2, f3, f4, f5, f6⟩ := hf
 obtain ⟨dI, zI, es⟩ := t
 dsimp only at *
 obtain ⟨d, rfl⟩ : ∃ d : Nat, dI = (d : Int) := ⟨dI.toNat, by omega⟩
 obtain ⟨z, rfl⟩ : ∃ z : Nat, zI = (z : Int) := ⟨zI.toNat, by omega⟩
 have HE := hid (f6.inR f4)
 have HLL := hid (show ∀ k, k ≤ es.length → (zbd d z es.length ++ zad (es.take k)).length ≤ 1000000000 from fun k hk => by
  have e : zak ⟨(d : Nat), (z : Nat), es⟩ = zbd d z es.length ++ zad es := by unfold zak; simp
  rw [e, List.length_append] at hL
  have h2 : (zad es).length = (zad (es.take k)).length + (zad (es.drop k)).length := by
   rw [← List.length_append, ← zeg, List.take_append_drop]
  rw [List.length_append]
  omega)
 have HHL := hid (show zak ⟨(d : Nat), (z : Nat), es⟩ = zbd d z es.length ++ zad es by unfold zak; simp)
 have hX0 := za.new w 107 #[.int .i64 (d : Nat), .int .i64 (z : Nat), .slice A es.length c]
 have hB0 : Below w.heap.size w (w.alloc (.cells #[.int .i64 (d : Nat), .int .i64 (z : Nat), .slice A es.length c] 107)) := (Below.refl _ _).alloc (Nat.le_refl _) _
 have hl0 := hl.below hB0
 have r1 : IntKind.u64.wrap (d : Int) = (d : Int) := by rw [IntKind.wrap_u64]; omega
 have r2 : IntKind.u64.wrap (z : Int) = (z : Int) := by rw [IntKind.wrap_u64]; omega
 have r3 : IntKind.u64.wrap (es.length : Int) = (es.length : Int) := by rw [IntKind.wrap_u64]; omega
 have HN0 := hid (show bs zd4 ++ bs (leB d 8) ++ bs (leB z 8) ++ bs (leB es.length 8) = bs (zbd d z es.length) from by
  rw [zgk, zgk, zgk]; unfold zbd; simp only [List.append_assoc])
 have hnm : bs zd4 = ByteArray.mk #[108, 97, 99, 101, 119, 111, 114, 107] := rfl
 rw [hnm] at HN0
 have C1 := hid (fun W => zbl d W (by omega))
 have C2 := hid (fun W => zbl z W (by omega))
 have C3 := hid (fun W => zbl es.length W (by omega))
 have z1 : (bs (leB d 8)).size = 8 := by rw [zc4, ze]
 have z2 : (bs (leB z 8)).size = 8 := by rw [zc4, ze]
 have z3 : (bs (leB es.length 8)).size = 8 := by rw [zc4, ze]
 change Hid (∀ W, Calls _ _ _ W fun e w' => e = .returned (.string (bs (leB d 8))) ∧ Below W.heap.size W w') at C1
 change Hid (∀ W, Calls _ _ _ W fun e w' => e = .returned (.string (bs (leB z 8))) ∧ Below W.heap.size W w') at C2
 change Hid (∀ W, Calls _ _ _ W fun e w' => e = .returned (.string (bs (leB es.length 8))) ∧ Below W.heap.size W w') at C3
 generalize bs (leB d 8) = E1 at *
 generalize bs (leB z 8) = E2 at *
 generalize bs (leB es.length 8) = E3 at *
 have s0 : (ByteArray.mk #[108, 97, 99, 101, 119, 111, 114, 107]).size = 8 := rfl
 have b1 : ¬ 9223372036854775807 < (ByteArray.mk #[108, 97, 99, 101, 119, 111, 114, 107]).size + E1.size := by rw [s0, z1]; omega
 have b2 : ¬ 9223372036854775807 < (ByteArray.mk #[108, 97, 99, 101, 119, 111, 114, 107]).size + E1.size + E2.size := by rw [s0, z1, z2]; omega
 have b3 : ¬ 9223372036854775807 < (ByteArray.mk #[108, 97, 99, 101, 119, 111, 114, 107]).size + E1.size + E2.size + E3.size := by rw [s0, z1, z2, z3]; omega
 have b1' : ¬ 9223372036854775807 < 8 + E1.size := by omega
 have b2' : ¬ 9223372036854775807 < 8 + E1.size + E2.size := by omega
 have b3' : ¬ 9223372036854775807 < 8 + E1.size + E2.size + E3.size := by omega
 clear f6 hL s0
 go_enter Tryz.func126, Tryz.ntmps126
 go_wp2_with fail
 generalize (w.alloc (.cells #[.int .i64 (d : Nat), .int .i64 (z : Nat), .slice A es.length c] 107)) = W0 at *
 have KX := hid (show ∀ W, Below W0.heap.size W0 W → W.cell? ⟨w.heap.size, 0, none⟩ = some (.int .i64 (d : Nat)) ∧ W.cell? ⟨w.heap.size, 1, none⟩ = some (.int .i64 (z : Nat)) ∧ W.cell? ⟨w.heap.size, 2, none⟩ = some (.slice A es.length c) from fun W hW => ⟨(hX0.below hW).cell 0, (hX0.below hW).cell 1, (hX0.below hW).cell 2⟩)
 have D1 := hid (fun W (hW : Below W0.heap.size W0 W) => (C1.out W).mono (R' := fun e w' => e = .returned (.string E1) ∧ Below W0.heap.size W0 w') (fun e w' ⟨h1, h2⟩ => ⟨h1, hW.trans (h2.mono hW.size)⟩))
 have D2 := hid (fun W (hW : Below W0.heap.size W0 W) => (C2.out W).mono (R' := fun e w' => e = .returned (.string E2) ∧ Below W0.heap.size W0 w') (fun e w' ⟨h1, h2⟩ => ⟨h1, hW.trans (h2.mono hW.size)⟩))
 have D3 := hid (fun W (hW : Below W0.heap.size W0 W) => (C3.out W).mono (R' := fun e w' => e = .returned (.string E3) ∧ Below W0.heap.size W0 w') (fun e w' ⟨h1, h2⟩ => ⟨h1, hW.trans (h2.mono hW.size)⟩))
 have hB00 := Below.refl W0.heap.size W0
 have kk := KX.out _ hB00
 clear C1 C2 C3
 go_region_held3 (fun w' => Below W0.heap.size W0 w' ∧ w'.cell? ⟨w.heap.size, 0, none⟩ = some (.int .i64 (d : Nat)) ∧ w'.cell? ⟨w.heap.size, 1, none⟩ = some (.int .i64 (z : Nat)) ∧ w'.cell? ⟨w.heap.size, 2, none⟩ = some (.slice A es.length c)) (first | exact ⟨hB00.drew, kk⟩ | exact ⟨hB00, kk⟩ | exact ⟨e1, KX.out _ e1⟩ | exact ⟨e2, KX.out _ e2⟩ | exact ⟨e3, KX.out _ e3⟩ | assumption)
  (first
   | (go_at_call 23; with_reducible refine (D1.out _ (by first | assumption | exact And.left (by assumption))).mono ?_; rintro e w6 ⟨rfl, e1⟩)
   | (go_at_call 23; with_reducible refine (D2.out _ (by first | assumption | exact And.left (by assumption))).mono ?_; rintro e w7 ⟨rfl, e2⟩)
   | (go_at_call 23; with_reducible refine (D3.out _ (by first | assumption | exact And.left (by assumption))).mono ?_; rintro e w8 ⟨rfl, e3⟩))
 have hX8 := hX0.below e3
 have hB08 := hB0.trans (e3.mono hB0.size)
 have hHH := HN0.out
 rw [hHH]
 clear hHH HN0 KX D1 D2 D3 kk hB00 z1 z2 z3 b1 b2 b3 b1' b2' b3' r1 r2 r3 hnm hX0 hl0 hB0 e3
 go_wp2_with fail
 go_loopw [3, 4] (fun sv iv wr => ∃ k : Nat, k ≤ es.length ∧ iv = .int .i64 (k : Nat) ∧ sv = .string (bs (zbd d z es.length ++ zad (es.take k))) ∧ Below w.heap.size w wr ∧ za wr w.heap.size 107 #[.int .i64 (d : Nat), .int .i64 (z : Nat), .slice A es.length c]) (fun _ iv _ => es.length - (intOf iv).toNat)
 case atStart => exact ⟨0, by omega, rfl, by rw [show zbd d z es.length ++ zad (es.take 0) = zbd d z es.length by simp [zad]], hB08, hX8⟩
 case round =>
  obtain ⟨k, hk, rfl, rfl, hB, hX⟩ := hrel
  clear hX8 hB08
  have hz := hB.size
  have hXl := hX.lt
  have t2 := hX.cell 2
  have hLk := HLL.out k hk
  rcases Nat.lt_or_ge k es.length with hlt | hge
  ·have hki : (k : Int) < (es.length : Int) := by omega
   have hk0 : (0 : Int) ≤ (k : Int) := by omega
   have hkW := zg k (by omega)
   obtain ⟨g, o, rfl, hg, k0, k1, k2, k3, k4⟩ := zdm (hl.below hB) hlt
   have hx := HE.out es[k] (List.getElem_mem hlt)
   have HLL1 := HLL.out (k + 1) hlt
   have HT := hid (show zbd d z es.length ++ zad (es.take (k + 1)) = zbd d z es.length ++ zad (es.take k) ++ entL es[k] by rw [List.take_succ_eq_append_getElem hlt, zgx, List.append_assoc])
   rw [HT.out] at HLL1
   generalize es[k] = x at *
   obtain ⟨xa, xb, xv, xp, xs⟩ := x
   unfold InR at hx
   dsimp only at k0 k1 k2 k3 k4 hx
   obtain ⟨q1, q2, q3, q4, q5, q6, q7, q8, q9⟩ := hx
   obtain ⟨na, rfl⟩ : ∃ n : Nat, xa = (n : Int) := ⟨xa.toNat, by omega⟩
   obtain ⟨nb_, rfl⟩ : ∃ n : Nat, xb = (n : Int) := ⟨xb.toNat, by omega⟩
   obtain ⟨nv, rfl⟩ : ∃ n : Nat, xv = (n : Int) := ⟨xv.toNat, by omega⟩
   obtain ⟨np, rfl⟩ : ∃ n : Nat, xp = (n : Int) := ⟨xp.toNat, by omega⟩
   have r1 : IntKind.u64.wrap (na : Int) = (na : Int) := by rw [IntKind.wrap_u64]; omega
   have r2 : IntKind.u64.wrap (nb_ : Int) = (nb_ : Int) := by rw [IntKind.wrap_u64]; omega
   have r3 : IntKind.u8.wrap (nv : Int) = (nv : Int) := by rw [IntKind.wrap_u8]; omega
   have r4 : IntKind.u64.wrap (np : Int) = (np : Int) := by rw [IntKind.wrap_u64]; omega
   have r5 : IntKind.u64.wrap (xs.size : Int) = (xs.size : Int) := by rw [IntKind.wrap_u64]; omega
   have C1 := hid (fun W => (show Calls Tryz.prog 23 #[.int .u64 (na : Nat)] W fun e w' => e = .returned (.string (bs (leB na 8))) ∧ Below W.heap.size W w' from zbl na W (by omega)))
   have C2 := hid (fun W => (show Calls Tryz.prog 23 #[.int .u64 (nb_ : Nat)] W fun e w' => e = .returned (.string (bs (leB nb_ 8))) ∧ Below W.heap.size W w' from zbl nb_ W (by omega)))
   have C3 := hid (fun W => (show Calls Tryz.prog 23 #[.int .u64 (np : Nat)] W fun e w' => e = .returned (.string (bs (leB np 8))) ∧ Below W.heap.size W w' from zbl np W (by omega)))
   have C4 := hid (fun W => (show Calls Tryz.prog 23 #[.int .u64 (xs.size : Nat)] W fun e w' => e = .returned (.string (bs (leB xs.size 8))) ∧ Below W.heap.size W w' from zbl xs.size W (by omega)))
   have HCAT := hid (show bs (zbd d z es.length ++ zad (es.take k)) ++ (bs (leB na 8) ++ bs (leB nb_ 8) ++ bs (leB nv 1) ++ bs (leB np 8) ++ bs (leB xs.size 8) ++ xs) = bs (zbd d z es.length ++ zad (es.take (k + 1))) from by
    rw [HT.out, ← zgk (zbd d z es.length ++ zad (es.take k))]
    have e : bs (entL ⟨(na : Nat), (nb_ : Nat), (nv : Nat), (np : Nat), xs⟩) = bs (leB na 8 ++ leB nb_ 8 ++ leB nv 1 ++ leB np 8 ++ leB xs.size 8 ++ xs.data.toList) := by
     unfold entL; simp
    congr 1)
   have z0 : (bs (zbd d z es.length ++ zad (es.take k))).size ≤ 1000000000 := by rw [zc4]; exact hLk
   have z1 : (bs (leB na 8)).size = 8 := by rw [zc4, ze]
   have z2 : (bs (leB nb_ 8)).size = 8 := by rw [zc4, ze]
   have z3 : (bs (leB nv 1)).size = 1 := by rw [zc4, ze]
   have z4 : (bs (leB np 8)).size = 8 := by rw [zc4, ze]
   have z5 : (bs (leB xs.size 8)).size = 8 := by rw [zc4, ze]
   have HCV := hid (show ∀ (W : World) (g : Nat), za W g 5 #[.int .u8 (nv : Nat)] → (convert 117 9 (.slice (some ⟨g, 0, none⟩) 1 1)).run Tryz.prog W = .ok (.string (bs (leB nv 1))) W from fun W g hg => by
    have h1 : W.ownsRow 0 5 1 (.slice (some ⟨g, 0, none⟩) (leB nv 1).length 1) (leB nv 1).length (Lib.byteCells (leB nv 1)) := by
     rw [ze]
     refine ⟨by rw [Lib.byteCells_length, ze], .inr ⟨g, 1, _, rfl, Nat.zero_le _, hg, Nat.le_refl _, by simp only [maxLen]; omega, rfl, ?_⟩⟩
     rw [show leB nv 1 = [UInt8.ofNat nv] by simp [leB], byteCells_one, Nat.mod_eq_of_lt (by omega)]; rfl
    have := zdf h1
    rwa [ze] at this)
   generalize bs (zbd d z es.length ++ zad (es.take k)) = E0 at *
   generalize bs (leB na 8) = E1 at *
   generalize bs (leB nb_ 8) = E2 at *
   generalize bs (leB nv 1) = E3 at *
   generalize bs (leB np 8) = E4 at *
   generalize bs (leB xs.size 8) = E5 at *
   have b1 : ¬ 9223372036854775807 < E1.size + E2.size := by omega
   have b2 : ¬ 9223372036854775807 < E1.size + E2.size + E3.size := by omega
   have b3 : ¬ 9223372036854775807 < E1.size + E2.size + E3.size + E4.size := by omega
   have b4 : ¬ 9223372036854775807 < E1.size + E2.size + E3.size + E4.size + E5.size := by omega
   have b5 : ¬ 9223372036854775807 < E1.size + E2.size + E3.size + E4.size + E5.size + xs.size := by omega
   have b6 : ¬ 9223372036854775807 < E0.size + (E1.size + E2.size + E3.size + E4.size + E5.size + xs.size) := by omega
   have hBa : Below wr.heap.size wr (wr.alloc (.cells #[.int .i64 (na : Nat), .int .i64 (nb_ : Nat), .int .i64 (nv : Nat), .int .i64 (np : Nat), .string xs] 113)) := (Below.refl _ _).alloc (Nat.le_refl _) _
   have hEa := za.new wr 113 #[.int .i64 (na : Nat), .int .i64 (nb_ : Nat), .int .i64 (nv : Nat), .int .i64 (np : Nat), .string xs]
   clear q1 q2 q3 q4 q5 q6 q7 q8 q9
   go_wp2_with fail
   generalize (wr.alloc (.cells #[.int .i64 (na : Nat), .int .i64 (nb_ : Nat), .int .i64 (nv : Nat), .int .i64 (np : Nat), .string xs] 113)) = wa at *
   have KX := hid (show ∀ W, Below wa.heap.size wa W → W.cell? ⟨wr.heap.size, 0, none⟩ = some (.int .i64 (na : Nat)) ∧ W.cell? ⟨wr.heap.size, 1, none⟩ = some (.int .i64 (nb_ : Nat)) ∧ W.cell? ⟨wr.heap.size, 2, none⟩ = some (.int .i64 (nv : Nat)) ∧ W.cell? ⟨wr.heap.size, 3, none⟩ = some (.int .i64 (np : Nat)) ∧ W.cell? ⟨wr.heap.size, 4, none⟩ = some (.string xs) from fun W hW => ⟨(hEa.below hW).cell 0, (hEa.below hW).cell 1, (hEa.below hW).cell 2, (hEa.below hW).cell 3, (hEa.below hW).cell 4⟩)
   have D1 := hid (fun W (hW : Below wa.heap.size wa W) => (C1.out W).mono (R' := fun e w' => e = .returned (.string E1) ∧ Below wa.heap.size wa w' ∧ Below W.heap.size W w') (fun e w' ⟨h1, h2⟩ => ⟨h1, hW.trans (h2.mono hW.size), h2⟩))
   have D2 := hid (fun W (hW : Below wa.heap.size wa W) => (C2.out W).mono (R' := fun e w' => e = .returned (.string E2) ∧ Below wa.heap.size wa w' ∧ Below W.heap.size W w') (fun e w' ⟨h1, h2⟩ => ⟨h1, hW.trans (h2.mono hW.size), h2⟩))
   have D3 := hid (fun W (hW : Below wa.heap.size wa W) => (C3.out W).mono (R' := fun e w' => e = .returned (.string E4) ∧ Below wa.heap.size wa w' ∧ Below W.heap.size W w') (fun e w' ⟨h1, h2⟩ => ⟨h1, hW.trans (h2.mono hW.size), h2⟩))
   have D4 := hid (fun W (hW : Below wa.heap.size wa W) => (C4.out W).mono (R' := fun e w' => e = .returned (.string E5) ∧ Below wa.heap.size wa w' ∧ Below W.heap.size W w') (fun e w' ⟨h1, h2⟩ => ⟨h1, hW.trans (h2.mono hW.size), h2⟩))
   have hB00 := Below.refl wa.heap.size wa
   have kk := KX.out _ hB00
   have hcv : ∀ (W : World), (convert 117 9 (.slice (some ⟨W.heap.size, 0, none⟩) 1 1)).run Tryz.prog (W.alloc (.cells #[.int .u8 (nv : Nat)] 5)) = .ok (.string E3) (W.alloc (.cells #[.int .u8 (nv : Nat)] 5)) := fun W => HCV.out _ _ (za.new W _ _)
   have hbb0 : za (World.drew (wa.alloc (.cells #[.int .u8 (nv : Nat)] 5))) wa.heap.size 5 #[.int .u8 (nv : Nat)] := za.new wa _ _
   have hcv0 := HCV.out _ _ hbb0
   clear C1 C2 C3 C4
   go_region_held (fun w' => Below wa.heap.size wa w' ∧ w'.cell? ⟨wr.heap.size, 0, none⟩ = some (.int .i64 (na : Nat)) ∧ w'.cell? ⟨wr.heap.size, 1, none⟩ = some (.int .i64 (nb_ : Nat)) ∧ w'.cell? ⟨wr.heap.size, 2, none⟩ = some (.int .i64 (nv : Nat)) ∧ w'.cell? ⟨wr.heap.size, 3, none⟩ = some (.int .i64 (np : Nat)) ∧ w'.cell? ⟨wr.heap.size, 4, none⟩ = some (.string xs)) (first | exact ⟨hB00.drew, kk⟩ | exact ⟨hB00, kk⟩ | exact ⟨e1, KX.out _ e1⟩ | exact ⟨e2, KX.out _ e2⟩ | exact ⟨e3, KX.out _ e3⟩ | exact ⟨e4, KX.out _ e4⟩ | assumption | exact ⟨e4.alloc e4.size _, KX.out _ (e4.alloc e4.size _)⟩ | exact ⟨e3.alloc e3.size _, KX.out _ (e3.alloc e3.size _)⟩ | exact ⟨e2.alloc e2.size _, KX.out _ (e2.alloc e2.size _)⟩ | exact ⟨e1.alloc e1.size _, KX.out _ (e1.alloc e1.size _)⟩ | exact ⟨hB00.drew.alloc hB00.drew.size _, KX.out _ (hB00.drew.alloc hB00.drew.size _)⟩)
    (first
     | (go_at_call 23; with_reducible refine (D1.out _ (by first | assumption | exact And.left (by assumption))).mono ?_; rintro e w6 ⟨rfl, e1, p1⟩; first | (have bb := za.below bb p1; have cv := HCV.out _ _ bb; clear p1) | (have bb := za.below hbb0 p1; have cv := HCV.out _ _ bb; clear p1) | (have bb : za _ _ 5 #[.int .u8 (nv : Nat)] := (za.new _ _ _).below p1; have cv := HCV.out _ _ bb; clear p1) | clear p1)
     | (go_at_call 23; with_reducible refine (D2.out _ (by first | assumption | exact And.left (by assumption))).mono ?_; rintro e w7 ⟨rfl, e2, p2⟩; first | (have bb := za.below bb p2; have cv := HCV.out _ _ bb; clear p2) | (have bb := za.below hbb0 p2; have cv := HCV.out _ _ bb; clear p2) | (have bb : za _ _ 5 #[.int .u8 (nv : Nat)] := (za.new _ _ _).below p2; have cv := HCV.out _ _ bb; clear p2) | clear p2)
     | (go_at_call 23; with_reducible refine (D3.out _ (by first | assumption | exact And.left (by assumption))).mono ?_; rintro e w8 ⟨rfl, e3, p3⟩; first | (have bb := za.below bb p3; have cv := HCV.out _ _ bb; clear p3) | (have bb := za.below hbb0 p3; have cv := HCV.out _ _ bb; clear p3) | (have bb : za _ _ 5 #[.int .u8 (nv : Nat)] := (za.new _ _ _).below p3; have cv := HCV.out _ _ bb; clear p3) | clear p3)
     | (go_at_call 23; with_reducible refine (D4.out _ (by first | assumption | exact And.left (by assumption))).mono ?_; rintro e w9 ⟨rfl, e4, p4⟩; first | (have bb := za.below bb p4; have cv := HCV.out _ _ bb; clear p4) | (have bb := za.below hbb0 p4; have cv := HCV.out _ _ bb; clear p4) | (have bb : za _ _ 5 #[.int .u8 (nv : Nat)] := (za.new _ _ _).below p4; have cv := HCV.out _ _ bb; clear p4) | clear p4))
   all_goals
    rename_i hHH
    have hF := hHH.1
    have hBz := hB.trans ((hBa.trans (hF.mono hBa.size)).mono hz)
    have hXz := (hX.below hBa).below hF
    clear hHH hF
    have hcc := HCAT.out
    rw [hcc]
    clear hcc HCAT HCV
    go_wp2_with fail
    go_roundw
    case rel => exact ⟨k + 1, hlt, by go_num, rfl, hBz, hXz⟩
    case measure => simp [intOf]; omega
  ·obtain rfl : k = es.length := by omega
   have HR := hid (show bs (zbd d z es.length ++ zad es) = bs (zak ⟨(d : Nat), (z : Nat), es⟩) by rw [HHL.out])
   have hki : ¬ ((es.length : Int) < (es.length : Int)) := by omega
   go_wp2_with fail
   go_ret
   exact ⟨congrArg (fun s => Ending.returned (Value.string s)) HR.out, hB⟩
end Go.Proofs.YtgpbpgpolpakjaaGreatDoor
