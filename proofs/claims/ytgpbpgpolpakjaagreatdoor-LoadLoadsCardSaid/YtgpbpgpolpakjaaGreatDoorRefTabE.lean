/- Proof text. -/
import Derived.Test.YtgpbpgpolpakjaaGreatDoorRefTabQ
import Derived.Test.YtgpbpgpolpakjaaGreatDoorRefTabP
import Derived.Test.YtgpbpgpolpakjaaGreatDoorTabF
import Derived.Test.YtgpbpgpolpakjaaGreatDoorTabG
import Derived.StillTailTactics
set_option maxHeartbeats 16000000
set_option linter.unusedVariables false
set_option linter.unusedSimpArgs false
set_option maxRecDepth 100000
namespace Go.Proofs.YtgpbpgpolpakjaaGreatDoor
open Go.RowKit Go.Shelf L
theorem L.zw7 (l : List UInt8) : (bs l).data.toList = l := by unfold bs; simp
theorem zqz {s t : ByteArray} (h : s = t) : (s.toList == t.toList) = true := by rw [h, beq_iff_eq]
theorem zol {s t : ByteArray} (h : s ≠ t) : (s.toList == t.toList) = false := by
 rw [beq_eq_false_iff_ne]
 intro e
 rw [ByteArray.toList_eq, ByteArray.toList_eq] at e
 exact h (zqo e)
theorem wrap_add (a k : Int) (h1 : 0 ≤ a) (h2 : a ≤ 100000000) (h3 : 0 ≤ k) (h4 : k ≤ 100000000) : IntKind.i64.wrap (a + k) = a + k := by rw [IntKind.wrap_i64]; omega
theorem zre (s : ByteArray) (w : World) (hs : s.size ≤ 1000000) :
  Calls Tryz.prog 72 #[.string s] w (zfp s.data.toList w) := by
 have HF := hid (show ∀ w' k, Below w.heap.size w w' → (∀ t, ¬ za1 s.data.toList t) → k = zb8 s.data.toList → zfp s.data.toList w (.returned (.tuple #[.agg #[.int .i64 0, .int .i64 0, .slice none 0 0], .int .i64 (k : Nat)])) w' from fun w' k h1 h2 h3 => ⟨h1, .inr ⟨by rw [h3], h2⟩⟩)
 have hsl := zan s
 have hR0 := (za.new w 107 #[.int .i64 0, .int .i64 0, .slice none 0 0]).alloc (.cells #[.int .i64 0, .int .i64 0, .slice none 0 0] 107)
 have hN0 := za.new (w.alloc (.cells #[.int .i64 0, .int .i64 0, .slice none 0 0] 107)) 107 #[.int .i64 0, .int .i64 0, .slice none 0 0]
 have hsz1 : (w.alloc (.cells #[.int .i64 0, .int .i64 0, .slice none 0 0] 107)).heap.size = w.heap.size + 1 := by simp
 have hB0 : Below w.heap.size w ((w.alloc (.cells #[.int .i64 0, .int .i64 0, .slice none 0 0] 107)).alloc (.cells #[.int .i64 0, .int .i64 0, .slice none 0 0] 107)) := ((Below.refl _ _).alloc (Nat.le_refl _) _).alloc (by rw [hsz1]; omega) _
 rw [hsz1] at hN0
 have r0 := hR0.cell 0
 have r1 := hR0.cell 1
 have r2 := hR0.cell 2
 have f0 := hR0.frozen 0
 have f1 := hR0.frozen 1
 have f2 := hR0.frozen 2
 have n0 := hN0.cell 0
 have n1 := hN0.cell 1
 have n2 := hN0.cell 2
 clear hsz1
 by_cases h40 : s.size < 40
 ·have h40I : (s.size : Int) < 40 := by omega
  have HN := hid (show ∀ t, ¬ za1 s.data.toList t from fun t h => by have := (zff.1 h).1; omega)
  have HE := hid (show (3 : Nat) = zb8 s.data.toList from by unfold zb8; rw [if_pos (by omega)])
  clear hsl
  go_enter Tryz.func72, Tryz.ntmps72
  go_wp2_with fail
  (try simp only [Exit.inBlock, Exit.then])
  refine bodyPost_ret (zw rfl _ _ w.heap.size _ #[.int .i64 0, .int .i64 0, .slice none 0 0] rfl hR0 za8 zbh) rfl ?_
  exact HF.out _ 3 hB0 HN.out HE.out
 ·have h40I : ¬ (s.size : Int) < 40 := by omega
  obtain ⟨n, hn⟩ : ∃ n, n = s.size - 8 := ⟨_, rfl⟩
  have hnI : (s.size : Int) - 8 = (n : Int) := by omega
  have hnL : (n : Int) ≤ (s.size : Int) := by omega
  have hn0 : (0 : Int) ≤ (n : Int) := by omega
  obtain ⟨h, hh⟩ : ∃ h, h = s.extract 0 n := ⟨_, rfl⟩
  obtain ⟨u, hu⟩ : ∃ u, u = s.extract n s.size := ⟨_, rfl⟩
  have hhl : h.data.toList = s.data.toList.take (s.data.toList.length - 8) := by rw [hh, ext_list, List.drop_zero, Nat.sub_zero, hsl, hn]
  have hul : u.data.toList = s.data.toList.drop (s.data.toList.length - 8) := by
   rw [hu, ext_list, hsl, hn]; exact List.take_of_length_le (by rw [List.length_drop, hsl]; exact Nat.le_refl _)
  have hhs : h.size = n := by rw [hh, ByteArray.size_extract]; omega
  have HT := hid (show ∀ t, za1 s.data.toList t ↔ (leB (sumL h.data.toList) 8 = u.data.toList ∧ zb7 h.data.toList t) from fun t => by
   rw [zff, ← hhl, ← hul]
   exact ⟨fun x => x.2, fun x => ⟨by omega, x⟩⟩)
  have HE := hid (show zb8 s.data.toList = if leB (sumL h.data.toList) 8 = u.data.toList then 3 else 11 from by unfold zb8; rw [if_neg (by omega), ← hhl, ← hul])
  have HSM := hid (show ∀ W, Calls Tryz.prog 24 #[.string (s.extract 0 n)] W fun e w' => e = .returned (.int .u64 (sumL h.data.toList : Nat)) ∧ W = w' from fun W => by rw [← hh]; exact zhe h W (by omega))
  have HEI := hid (show ∀ W, Calls Tryz.prog 23 #[.int .u64 (sumL h.data.toList : Nat)] W fun e w' => e = .returned (.string (bs (leB (sumL h.data.toList) 8))) ∧ Below W.heap.size W w' from fun W => zbl _ W (zfe _))
  have HEQ := hid (show bs (leB (sumL h.data.toList) 8) = u ↔ leB (sumL h.data.toList) 8 = u.data.toList from by
   constructor
   ·intro e; rw [← e, zw7]
   ·intro e; rw [e, z4w])
  generalize sumL h.data.toList = x at *
  generalize bs (leB x 8) = E8 at *
  have HHS := hid (show 32 ≤ h.size by omega)
  have hhn : n ≤ 1000000 := by omega
  clear hhl hul hsl hn
  by_cases hvx : E8 = u
  case neg =>
   have q1 : (E8.toList == (s.extract n s.size).toList) = false := by rw [← hu]; exact zol hvx
   have HN := hid (show ∀ t, ¬ za1 s.data.toList t from fun t ht => hvx (HEQ.out.2 ((HT.out t).1 ht).1))
   have HE2 := hid (show (11 : Nat) = zb8 s.data.toList from by rw [HE.out, if_neg (fun e => hvx (HEQ.out.2 e))])
   clear hvx hh hu
   go_enter Tryz.func72, Tryz.ntmps72
   go_wp2_with fail
   generalize ((w.alloc (.cells #[.int .i64 0, .int .i64 0, .slice none 0 0] 107)).alloc (.cells #[.int .i64 0, .int .i64 0, .slice none 0 0] 107)) = W1 at *
   have D1 := hid (fun W (hW : Below W1.heap.size W1 W) => (HSM.out W).mono (R' := fun e w' => e = .returned (.int .u64 (x : Nat)) ∧ Below W1.heap.size W1 w') (fun e w' ⟨h1, h2⟩ => ⟨h1, h2 ▸ hW⟩))
   have D2 := hid (fun W (hW : Below W1.heap.size W1 W) => (HEI.out W).mono (R' := fun e w' => e = .returned (.string E8) ∧ Below W1.heap.size W1 w') (fun e w' ⟨h1, h2⟩ => ⟨h1, hW.trans (h2.mono hW.size)⟩))
   have hB00 := Below.refl W1.heap.size W1
   go_region_held3 (fun w' => Below W1.heap.size W1 w') (first | exact hB00.drew | exact hB00 | exact e1 | exact e2 | assumption)
    (first
     | (go_at_call 24; with_reducible refine (D1.out _ (by assumption)).mono ?_; rintro e w6 ⟨rfl, e1⟩)
     | (go_at_call 23; with_reducible refine (D2.out _ (by assumption)).mono ?_; rintro e w7 ⟨rfl, e2⟩))
   have hR7 := hR0.below e2
   have hN7 := hN0.below e2
   have hB7 := hB0.trans (e2.mono hB0.size)
   have r0 := hR7.cell 0
   have r1 := hR7.cell 1
   have r2 := hR7.cell 2
   have f0 := hR7.frozen 0
   have f1 := hR7.frozen 1
   have f2 := hR7.frozen 2
   have n0 := hN7.cell 0
   have n1 := hN7.cell 1
   have n2 := hN7.cell 2
   go_wp2_with fail
   (try simp only [Exit.inBlock, Exit.then])
   refine bodyPost_ret (zw rfl _ _ w.heap.size _ #[.int .i64 0, .int .i64 0, .slice none 0 0] rfl (zba hR7 _ _ _) za8 zbh) rfl ?_
   exact HF.out _ 11 (zat hB7 (Nat.le_refl _) _ _ _) HN.out HE2.out
  have q1 : (E8.toList == (s.extract n s.size).toList) = true := by rw [← hu]; exact zqz hvx
  have HE2 := hid (show (3 : Nat) = zb8 s.data.toList from by rw [HE.out, if_pos (HEQ.out.1 hvx)])
  have HT3 := hid (show ∀ t, za1 s.data.toList t ↔ zb7 h.data.toList t from fun t => by rw [HT.out t]; exact ⟨fun x => x.2, fun x => ⟨HEQ.out.1 hvx, x⟩⟩)
  clear HE HT HEQ hvx hu
  go_enter Tryz.func72, Tryz.ntmps72
  go_wp2_with fail
  generalize ((w.alloc (.cells #[.int .i64 0, .int .i64 0, .slice none 0 0] 107)).alloc (.cells #[.int .i64 0, .int .i64 0, .slice none 0 0] 107)) = W1 at *
  have D1 := hid (fun W (hW : Below W1.heap.size W1 W) => (HSM.out W).mono (R' := fun e w' => e = .returned (.int .u64 (x : Nat)) ∧ Below W1.heap.size W1 w') (fun e w' ⟨h1, h2⟩ => ⟨h1, h2 ▸ hW⟩))
  have D2 := hid (fun W (hW : Below W1.heap.size W1 W) => (HEI.out W).mono (R' := fun e w' => e = .returned (.string E8) ∧ Below W1.heap.size W1 w') (fun e w' ⟨h1, h2⟩ => ⟨h1, hW.trans (h2.mono hW.size)⟩))
  have hB00 := Below.refl W1.heap.size W1
  go_region_held3 (fun w' => Below W1.heap.size W1 w') (first | exact hB00.drew | exact hB00 | exact e1 | exact e2 | assumption)
   (first
    | (go_at_call 24; with_reducible refine (D1.out _ (by assumption)).mono ?_; rintro e w6 ⟨rfl, e1⟩)
    | (go_at_call 23; with_reducible refine (D2.out _ (by assumption)).mono ?_; rintro e w7 ⟨rfl, e2⟩))
  have hR7 := hR0.below e2
  have hN7 := hN0.below e2
  have hB7 := hB0.trans (e2.mono hB0.size)
  have hN7l := hN7.lt
  go_wp2_with fail
  rw [← hh]
  clear hh
  have NU := hid (fun (a m : Nat) (ha : a ≤ 2000000) (hm : m ≤ 1000000000) W => zoi h a m W (by omega) ha hm)
  have NUd := hid (show ∀ W, Calls Tryz.prog 124 #[.string h, .int .i64 8, .int .i64 4096] W fun e w' => e = .returned (.int .i64 (numI h 8 4096)) ∧ W = w' from NU.out 8 4096 (by omega) (by omega))
  have NUz := hid (show ∀ W, Calls Tryz.prog 124 #[.string h, .int .i64 16, .int .i64 1048576] W fun e w' => e = .returned (.int .i64 (numI h 16 1048576)) ∧ W = w' from NU.out 16 1048576 (by omega) (by omega))
  have NUn := hid (show ∀ W, Calls Tryz.prog 124 #[.string h, .int .i64 24, .int .i64 4096] W fun e w' => e = .returned (.int .i64 (numI h 24 4096)) ∧ W = w' from NU.out 24 4096 (by omega) (by omega))
  have HST := hid (zdr.start h)
  have bd := zlo h 8 4096
  have bz := zlo h 16 1048576
  have bn := zlo h 24 4096
  generalize numI h 8 4096 = dI at *
  generalize numI h 16 1048576 = zI at *
  generalize numI h 24 4096 = nI at *
  clear r0 r1 r2 f0 f1 f2 n0 n1 n2 hR0 hN0 hB0 D1 D2 HSM HEI q1 hB00 e2
  go_at_call 124
  refine (NUn.out _).mono ?_
  rintro e w8 ⟨rfl, h8⟩
  subst h8
  go_wp2_with fail
  go_at_call 124
  refine (NUd.out _).mono ?_
  rintro e w9 ⟨rfl, h9⟩
  subst h9
  go_wp2_with fail
  go_at_call 124
  refine (NUz.out _).mono ?_
  rintro e wA ⟨rfl, hA⟩
  subst hA
  have hXT := za.new w7 107 #[.int .i64 dI, .int .i64 zI, .slice none 0 0]
  have hB78 : Below w7.heap.size w7 (w7.alloc (.cells #[.int .i64 dI, .int .i64 zI, .slice none 0 0] 107)) := (Below.refl _ _).alloc (Nat.le_refl _) _
  have hsz8 : w7.heap.size + 1 ≤ (w7.alloc (.cells #[.int .i64 dI, .int .i64 zI, .slice none 0 0] 107)).heap.size := by simp
  have HKR := hid (show ∀ wr, Below w7.heap.size w7 wr → za wr w.heap.size 107 #[.int .i64 0, .int .i64 0, .slice none 0 0] from fun wr h => hR7.below h)
  have HKN := hid (show ∀ wr, Below w7.heap.size w7 wr → za wr (w.heap.size + 1) 107 #[.int .i64 0, .int .i64 0, .slice none 0 0] from fun wr h => hN7.below h)
  have HBW := hid (show ∀ wr, Below w7.heap.size w7 wr → Below w.heap.size w wr from fun wr h => hB7.trans (h.mono hB7.size))
  have HNO := hid (show (∀ t, ¬ zb7 h.data.toList t) → ∀ t, ¬ za1 s.data.toList t from fun hx t ht => hx t ((HT3.out t).1 ht))
  have HYES := hid (show ∀ w' es A c, Below w.heap.size w w' → Lst w' A (entC es) → zb7 h.data.toList ⟨dI, zI, es⟩ → zfp s.data.toList w (.returned (.tuple #[.agg #[.int .i64 dI, .int .i64 zI, .slice A es.length c], .int .i64 0])) w' from fun w' es A c h1 h2 h3 => ⟨h1, .inl ⟨_, A, c, rfl, h2, (HT3.out _).2 h3⟩⟩)
  obtain ⟨i0, hi, hz0, hz1, hz2⟩ := info_parts Tryz.infoEnt
  clear hR7 hN7 hB7 NUd NUz NUn HT3
  go_wp2_with fail
  generalize (w7.alloc (.cells #[.int .i64 dI, .int .i64 zI, .slice none 0 0] 107)) = W8 at *
  generalize hTe : w7.heap.size = T at *
  go_loopw [9, 10] (fun av iv wr => ∃ (i a : Nat) (es : List EntI) (A : Option Addr) (c : Nat), iv = .int .i64 (i : Nat) ∧ av = .int .i64 (a : Nat) ∧ es.length = i ∧ Hid (a = 32 + (zad es).length) ∧ a ≤ h.size ∧ ((i : Int) ≤ nI ∨ i = 0) ∧ za wr T 107 #[.int .i64 dI, .int .i64 zI, .slice A i c] ∧ wr.ownsRow (T + 1) 113 5 (.slice A i c) i (entC es) ∧ Below T w7 wr ∧ T + 1 ≤ wr.heap.size ∧ Hid (zdr h dI zI nI i a es)) (fun _ iv _ => (nI - intOf iv).toNat)
  case atStart => exact ⟨0, 32, [], none, 0, rfl, rfl, rfl, hid rfl, HHS.out, .inr rfl, hXT, World.ownsRow_nil _ _ _ _, hB78, hsz8, HST⟩
  case round =>
   obtain ⟨i, a, es, A, c, rfl, rfl, hlen, hae, hah, hin, hX, hown, hB, hz, HI⟩ := hrel
   clear hXT hB78 hsz8 HST
   have hRr := HKR.out _ hB
   have hNr := HKN.out _ hB
   have hBw := HBW.out _ hB
   have r0 := hRr.cell 0
   have r1 := hRr.cell 1
   have r2 := hRr.cell 2
   have f0 := hRr.frozen 0
   have f1 := hRr.frozen 1
   have f2 := hRr.frozen 2
   have n0 := hNr.cell 0
   have n1 := hNr.cell 1
   have n2 := hNr.cell 2
   have t0 := hX.cell 0
   have t1 := hX.cell 1
   have t2 := hX.cell 2
   by_cases hlt : (i : Int) < nI
   ·by_cases hA : h.size < a + 33
    ·have hq1 : (h.size : Int) - (a : Int) < 33 := by omega
     have HN := hid (HNO.out (HI.out.no hlt (.inl hA)))
     go_wp2_with fail
     (try simp only [Exit.inBlock, Exit.then])
     refine bodyPost_ret (zw rfl _ _ w.heap.size _ #[.int .i64 0, .int .i64 0, .slice none 0 0] rfl (zba hRr _ _ _) za8 zbh) rfl ?_
     exact HF.out _ 3 (zat hBw (Nat.le_refl _) _ _ _) HN.out HE2.out
    have hq1 : ¬ ((h.size : Int) - (a : Int) < 33) := by omega
    have NUk := hid (show ∀ W, Calls Tryz.prog 124 #[.string h, .int .i64 ((a : Int) + 25), .int .i64 1048576] W fun e w' => e = .returned (.int .i64 (numI h (a + 25) 1048576)) ∧ W = w' from fun W => by
     have := NU.out (a + 25) 1048576 (by omega) (by omega) W
     rw [show ((a + 25 : Nat) : Int) = (a : Int) + 25 from by omega] at this
     exact this)
    obtain ⟨kI, hkI⟩ : ∃ kI, kI = numI h (a + 25) 1048576 := ⟨_, rfl⟩
    have bk := zlo h (a + 25) 1048576
    rw [← hkI] at NUk bk
    go_wp2_with fail
    with_reducible refine (NUk.out _).mono ?_
    rintro e w9 ⟨rfl, h9⟩
    subst h9
    by_cases hk0 : kI < 0
    ·have HN := hid (HNO.out (HI.out.no hlt (.inr (.inl (by omega)))))
     clear hkI
     go_wp2_with fail
     (try simp only [Exit.inBlock, Exit.then])
     refine bodyPost_ret (zw rfl _ _ w.heap.size _ #[.int .i64 0, .int .i64 0, .slice none 0 0] rfl (zba hRr _ _ _) za8 zbh) rfl ?_
     exact HF.out _ 3 (zat hBw (Nat.le_refl _) _ _ _) HN.out HE2.out
    obtain ⟨k, rfl⟩ : ∃ k : Nat, kI = (k : Int) := ⟨kI.toNat, by omega⟩
    by_cases hk1 : h.size < a + 33 + k
    ·have HN := hid (HNO.out (HI.out.no hlt (.inr (.inr (by omega)))))
     have hq2 : (h.size : Int) - (a : Int) - 33 < (k : Int) := by omega
     clear hkI
     go_wp2_with fail
     (try simp only [Exit.inBlock, Exit.then])
     refine bodyPost_ret (zw rfl _ _ w.heap.size _ #[.int .i64 0, .int .i64 0, .slice none 0 0] rfl (zba hRr _ _ _) za8 zbh) rfl ?_
     exact HF.out _ 3 (zat hBw (Nat.le_refl _) _ _ _) HN.out HE2.out
    have hq2 : ¬ ((h.size : Int) - (a : Int) - 33 < (k : Int)) := by omega
    have ha16 : a + 16 < h.size := by omega
    have HNX := hid (HI.out.succ hlt k hkI.symm ha16)
    obtain ⟨a8, ha8⟩ : ∃ m : Nat, m = a + 8 := ⟨_, rfl⟩
    obtain ⟨a16, ha6⟩ : ∃ m : Nat, m = a + 16 := ⟨_, rfl⟩
    obtain ⟨a17, ha7⟩ : ∃ m : Nat, m = a + 17 := ⟨_, rfl⟩
    obtain ⟨a33, ha3⟩ : ∃ m : Nat, m = a + 33 := ⟨_, rfl⟩
    obtain ⟨ak, hak⟩ : ∃ m : Nat, m = a33 + k := ⟨_, rfl⟩
    have QA := hid (fun W => NU.out a 1048576 (by omega) (by omega) W)
    have QB := hid (fun W => NU.out a8 1048576 (by omega) (by omega) W)
    have QP := hid (fun W => NU.out a17 65536 (by omega) (by omega) W)
    change Hid (∀ W, Calls _ _ #[.string h, .int .i64 (a : Nat), .int .i64 1048576] W fun e w' => e = .returned (.int .i64 (numI h a 1048576)) ∧ W = w') at QA
    have eb8 : (a8 : Int) = (a : Int) + 8 := by omega
    have eb17 : (a17 : Int) = (a : Int) + 17 := by omega
    change Hid (∀ W, Calls _ _ #[.string h, .int .i64 (a8 : Nat), .int .i64 1048576] W fun e w' => e = .returned (.int .i64 (numI h a8 1048576)) ∧ W = w') at QB
    change Hid (∀ W, Calls _ _ #[.string h, .int .i64 (a17 : Nat), .int .i64 65536] W fun e w' => e = .returned (.int .i64 (numI h a17 65536)) ∧ W = w') at QP
    rw [eb8] at QB
    rw [eb17] at QP
    clear eb8 eb17
    have HNY := hid (show zdr h dI zI nI (i + 1) ak (es ++ [⟨numI h a 1048576, numI h a8 1048576, ((h[a16]'(by omega)).toNat : Int), numI h a17 65536, h.extract a33 ak⟩]) from by
     have := HNX.out
     subst ha8 ha6 ha7 ha3 hak
     exact this)
    have l2n : a16 < h.size := by omega
    clear HNX
    generalize numI h a 1048576 = xa at *
    generalize numI h a8 1048576 = xb at *
    generalize numI h a17 65536 = xp at *
    clear hkI NUk hk0 hk1
    go_wp2_with fail
    obtain ⟨bv, hbv⟩ : ∃ bv, h[a16]'l2n = bv := ⟨_, rfl⟩
    have HNZ := hid (show zdr h dI zI nI (i + 1) (a + 33 + k) (es ++ [⟨xa, xb, (bv.toNat : Int), xp, h.extract a33 ak⟩]) from by
     have := HNY.out
     rw [hbv] at this
     rw [show a + 33 + k = ak from by omega]
     exact this)
    have hbw : IntKind.i64.wrap (bv.toNat : Int) = (bv.toNat : Int) := by have := UInt8.toNat_lt bv; rw [IntKind.wrap_i64]; omega
    clear HNY
    have l0 : (0 : Int) ≤ (a : Int) + 16 := by omega
    have l2 : (a : Int) + 16 < (h.size : Int) := by omega
    have l3 : ((a : Int) + 16).toNat = a16 := by omega
    have l4 : (0 : Int) ≤ (a : Int) + 33 := by omega
    have l5 : (a : Int) + 33 ≤ (a : Int) + 33 + (k : Int) := by omega
    have l6 : (a : Int) + 33 + (k : Int) ≤ (h.size : Int) := by omega
    have l8 : ((a : Int) + 33).toNat = a33 := by omega
    have l9 : ((a : Int) + 33 + (k : Int)).toNat = ak := by omega
    have hs1 : IntKind.i64.wrap ((a : Int) + 8) = (a : Int) + 8 := wrap_add _ _ (by omega) (by omega) (by omega) (by omega)
    have hs2 : IntKind.i64.wrap ((a : Int) + 16) = (a : Int) + 16 := wrap_add _ _ (by omega) (by omega) (by omega) (by omega)
    have hs3 : IntKind.i64.wrap ((a : Int) + 17) = (a : Int) + 17 := wrap_add _ _ (by omega) (by omega) (by omega) (by omega)
    have hs4 : IntKind.i64.wrap ((a : Int) + 33) = (a : Int) + 33 := wrap_add _ _ (by omega) (by omega) (by omega) (by omega)
    have hs5 : IntKind.i64.wrap ((a : Int) + 33 + (k : Int)) = (a : Int) + 33 + (k : Int) := wrap_add _ _ (by omega) (by omega) (by omega) (by omega)
    have hsl := fun W : World => run_slice_string (P := Tryz.prog) W 9 h .i64 .i64 ((a : Int) + 33) ((a : Int) + 33 + (k : Int)) Tryz.underlying9 l4 l5 l6
    rw [l8, l9] at hsl
    have hkh : a + 33 + k ≤ h.size := by clear hs1 hs2 hs3 hs4 hs5; omega
    have hxs := hid (show (h.extract a33 ak).size = k from by rw [ByteArray.size_extract]; clear hs1 hs2 hs3 hs4 hs5; omega)
    have hsz6 : h.size ≤ 1000000 := by clear hs1 hs2 hs3 hs4 hs5; omega
    have P1 := hid (And.intro hX (And.intro hown (And.intro hB hz)))
    have P2 := hid (And.intro hi (And.intro hz0 (And.intro hz1 hz2)))
    have P3 := hid (And.intro hah (And.intro hlt (And.intro hlen (And.intro hin (And.intro hkh (And.intro hsz6 bn))))))
    try clear HHS
    try clear hhs
    try clear hhn
    try clear bd
    try clear bz
    try clear bn
    try clear hX
    try clear hown
    try clear hB
    try clear hz
    try clear hi
    try clear hz0
    try clear hz1
    try clear hz2
    try clear hRr
    try clear hNr
    try clear hBw
    try clear r0
    try clear r1
    try clear r2
    try clear f0
    try clear f1
    try clear f2
    try clear n0
    try clear n1
    try clear n2
    try clear t0
    try clear t1
    try clear t2
    try clear hlen
    try clear hah
    try clear hin
    try clear hq1
    try clear hq2
    try clear hTe
    try clear hN7l
    try clear hlt
    try clear hA
    try clear h40
    try clear h40I
    try clear hnI
    try clear hnL
    try clear hn0
    try clear hkh
    try clear hsz6
    try clear bk
    try clear l2n
    try clear hs
    try clear ha8
    try clear ha6
    try clear ha7
    try clear ha3
    try clear hak
    try clear hI0
    go_region_held3 (fun _ => True ∧ True) (exact ⟨trivial, trivial⟩)
     (first
      | (go_at_call 124; with_reducible refine (QA.out _).mono ?_; rintro e w6 ⟨rfl, rfl⟩)
      | (go_at_call 124; with_reducible refine (QB.out _).mono ?_; rintro e w6 ⟨rfl, rfl⟩)
      | (go_at_call 124; with_reducible refine (QP.out _).mono ?_; rintro e w6 ⟨rfl, rfl⟩))
    all_goals
     obtain ⟨hX, hown, hB, hz⟩ := P1.out
     obtain ⟨hi, hz0, hz1, hz2⟩ := P2.out
     obtain ⟨hah, hlt, hlen, hin, hkh, hsz6, bn⟩ := P3.out
     clear hs1 hs2 hs3 hs4 hs5 hsl hbw
     have hE9 : za (World.drew (wr.alloc (.cells #[.int .i64 xa, .int .i64 xb, .int .i64 (bv.toNat : Nat), .int .i64 xp, .string (h.extract a33 ak)] 113))) wr.heap.size 113 #[.int .i64 xa, .int .i64 xb, .int .i64 (bv.toNat : Nat), .int .i64 xp, .string (h.extract a33 ak)] := za.new wr _ _
     have hB9 : Below wr.heap.size wr (World.drew (wr.alloc (.cells #[.int .i64 xa, .int .i64 xb, .int .i64 (bv.toNat : Nat), .int .i64 xp, .string (h.extract a33 ak)] 113))) := ((Below.refl _ _).alloc (Nat.le_refl _) _).drew
     have t2 := hX.cell 2
     have hXl := hX.lt
     have hTE : T ≠ wr.heap.size := by omega
     have hTE2 : ¬ (wr.heap.size = T) := fun e => hTE e.symm
     have hX9 := hX.below hB9
     have z2 := hX9.cell 2
     have e0 := hE9.cell 0
     have e1 := hE9.cell 1
     have e2 := hE9.cell 2
     have e3 := hE9.cell 3
     have e4 := hE9.cell 4
     have hi4 : i ≤ 4096 := by omega
     generalize h.extract a33 ak = xs at *
     have hown9 : (World.drew (wr.alloc (.cells #[.int .i64 xa, .int .i64 xb, .int .i64 (bv.toNat : Nat), .int .i64 xp, .string xs] 113))).ownsRow (T + 1) 113 5 (.slice A i c) i (entC es) := zac (S := fun _ => False) hown (Only.of_below hB9) (fun _ _ h => h)
     have hlt3 : ∀ j, (Value.slice A i c).ownBlock = some j → T + 1 ≤ j := fun j hj => (hown9.lt j hj).1
     have hB19 := hB.trans (hB9.mono (by omega : T ≤ wr.heap.size))
     have hX9l := hX9.lt
     go_wp2_with (at_builtin
                  go_must (refine wpList_append_own_at _ rfl (.tmp 95) (.tmp 97) 105 rfl (T + 1) 113 i0 _ 5 48 Tryz.underlying105 hi hz0 hz1 hz2 rfl (by decide) (.slice A i c) i _ rfl (hown9.alloc _) ⟨_, 0, none⟩ 1 1 [.int .i64 xa, .int .i64 xb, .int .i64 (bv.toNat : Nat), .int .i64 xp, .string xs] rfl rfl (zdi _ _ _ _ _ _ _ _ (by simp)) (by simp [Value.oneCell']) (by simp only [maxLen]; omega) (by omega) (by simp; omega) ?_)
                  intro v4 w4 hown4 hgr4 _ hat4
                  obtain ⟨A4, c4, rfl⟩ := zam hown4
                  have hX4 : za w4 T 107 #[.int .i64 dI, .int .i64 zI, .slice A i c] := (hX9.alloc _).kept (hgr4.block T (by simp; omega) (fun e => by have := hlt3 T e.symm; omega))
                  have t2 := hX4.cell 2
                  have g2 := hX4.frozen 2)
     have hB4 : Below T w7 w4 := (hB19.alloc (by simp; omega) (.cells #[.int .i64 xa, .int .i64 xb, .int .i64 (bv.toNat : Nat), .int .i64 xp, .string xs] 113)).grown hgr4 (by simp; omega) (fun j hj => by have := hlt3 j hj; omega)
     have hown5 := zac hown4 ((Only.refl (fun i => i = T) w4).setCell (p := ⟨T, 2, none⟩) (.inl rfl) (.slice A4 (i + 1) c4)) (fun j hj e => by have := (hown4.lt j hj).1; omega)
     have hz4 := hgr4.size
     go_wp2_with fail
     go_roundw
     case rel => exact ⟨i + 1, a + 33 + k, es ++ [⟨xa, xb, (bv.toNat : Int), xp, xs⟩], A4, c4, by go_num, by refine congrArg _ ?_; omega, by rw [List.length_append, hlen]; rfl, hid (by rw [zgx, List.length_append, zf6]; have := hae.out; have := hxs.out; dsimp only at *; omega), hkh, .inl (by omega), hX4.put 2 _, by rw [zgj]; exact hown5, hB4.setCell (p := ⟨T, 2, none⟩) (Nat.le_refl _) _, by simp at hz4 ⊢; omega, HNZ⟩
     case measure => simp [intOf]; omega
   have HI2 := HI.out
   have hl := zdq hown (by omega)
   have hnr : ∀ ad, A = some ad → ad.block ≠ w.heap.size := fun ad e => by have := zk5 hown ad e; omega
   by_cases hm : nI < 0
   ·have HN := hid (HNO.out (fun t ht => by have := (HI2 t ht).2.2.1; omega))
    clear HI2
    go_wp2_with fail
    (try simp only [Exit.inBlock, Exit.then])
    refine bodyPost_ret (zw rfl _ _ w.heap.size _ #[.int .i64 0, .int .i64 0, .slice none 0 0] rfl (zba hRr _ _ _) za8 zbh) rfl ?_
    exact HF.out _ 3 (zat hBw (Nat.le_refl _) _ _ _) HN.out HE2.out
   have hie : (i : Int) = nI := by omega
   by_cases han : a = n
   case neg =>
    have HN := hid (HNO.out (fun t ht => by have := (HI2.fin hie t ht).2; omega))
    have hq1 : ((a : Int) != (n : Int)) = true := by rw [bne_iff_ne]; omega
    have hq2 : ¬ ((a : Int) = (n : Int)) := by omega
    clear HI2
    go_wp2_with fail
    (try simp only [Exit.inBlock, Exit.then])
    refine bodyPost_ret (zw rfl _ _ w.heap.size _ #[.int .i64 0, .int .i64 0, .slice none 0 0] rfl (zba hRr _ _ _) za8 zbh) rfl ?_
    exact HF.out _ 3 (zat hBw (Nat.le_refl _) _ _ _) HN.out HE2.out
   have HFI := hid (HI2.fin hie)
   have hq1 : ((a : Int) != (n : Int)) = false := by rw [han]; simp
   have hq2 : (a == n) = true := by rw [han]; simp
   have hq3 : (a : Int) = (n : Int) := by omega
   subst hlen
   have HFM := hid (zok dI zI A c es wr hl (by omega))
   unfold ze6 at HFM
   have HHE := hid (fun W (hW : Lst W A (entC es)) (hf : zae ⟨dI, zI, es⟩) => zjr ⟨dI, zI, es⟩ A c W hW hf (by rw [zdh]; have := hae.out; show 32 + (zad es).length ≤ _; omega))
   have HYS := hid (show ∀ w', Below w.heap.size w w' → Lst w' A (entC es) → zb7 h.data.toList ⟨dI, zI, es⟩ → zfp s.data.toList w (.returned (.tuple #[.agg #[.int .i64 dI, .int .i64 zI, .slice A es.length c], .int .i64 0])) w' from fun w' h1 h2 h3 => HYES.out w' es A c h1 h2 h3)
   clear HI2 HI han hae
   go_wp2_with fail
   go_at_call 125
   refine HFM.out.mono ?_
   rintro e w8 ⟨ok, rfl, hok, hB8⟩
   have hR8 := hRr.below hB8
   have hN8 := hNr.below hB8
   have hX8 := hX.below hB8
   have hl8 := hl.below hB8
   have hB08 := hBw.trans (hB8.mono hBw.size)
   have t0 := hX8.cell 0
   have t1 := hX8.cell 1
   have t2 := hX8.cell 2
   have r0 := hR8.cell 0
   have r1 := hR8.cell 1
   have r2 := hR8.cell 2
   have f0 := hR8.frozen 0
   have f1 := hR8.frozen 1
   have f2 := hR8.frozen 2
   have n0 := hN8.cell 0
   have n1 := hN8.cell 1
   have n2 := hN8.cell 2
   cases ok with
   | false =>
     have HN := hid (HNO.out (fun t ht => by
      have e1 := (HFI.out t ht).1
      have := hok.2 (by rw [← e1]; exact ht.1)
      cases this))
     clear hok
     go_wp2_with fail
     (try simp only [Exit.inBlock, Exit.then])
     refine bodyPost_ret (zw rfl _ _ w.heap.size _ #[.int .i64 0, .int .i64 0, .slice none 0 0] rfl (zba hR8 _ _ _) za8 zbh) rfl ?_
     exact HF.out _ 3 (zat hB08 (Nat.le_refl _) _ _ _) HN.out HE2.out
   | true =>
     have hf : zae ⟨dI, zI, es⟩ := hok.1 rfl
     have HHF := hid (HHE.out w8 hl8 hf)
     have HNN := hid (fun (hx : bs (zak ⟨dI, zI, es⟩) ≠ h) => HNO.out (fun t ht => hx (by
      have e1 := (HFI.out t ht).1
      rw [← e1, ← ht.2, z4w])))
     have HIH := hid (fun (hx : bs (zak ⟨dI, zI, es⟩) = h) => (show zb7 h.data.toList ⟨dI, zI, es⟩ from ⟨hf, by rw [← hx, zw7]⟩))
     change Hid (Calls _ _ #[.agg #[.int .i64 dI, .int .i64 zI, .slice A es.length c]] w8 fun e w' => e = .returned (.string (bs (zak ⟨dI, zI, es⟩))) ∧ Below w8.heap.size w8 w') at HHF
     generalize bs (zak ⟨dI, zI, es⟩) = HS at *
     clear hok hf HFI HHE HFM
     go_wp2_with fail
     go_at_call 126
     refine HHF.out.mono ?_
     rintro e w9 ⟨rfl, hB9⟩
     have hR9 := hR8.below hB9
     have hN9 := hN8.below hB9
     have hX9 := hX8.below hB9
     have hl9 := hl8.below hB9
     have hB09 := hB08.trans (hB9.mono hB08.size)
     have t0 := hX9.cell 0
     have t1 := hX9.cell 1
     have t2 := hX9.cell 2
     have r0 := hR9.cell 0
     have r1 := hR9.cell 1
     have r2 := hR9.cell 2
     have f0 := hR9.frozen 0
     have f1 := hR9.frozen 1
     have f2 := hR9.frozen 2
     have n0 := hN9.cell 0
     have n1 := hN9.cell 1
     have n2 := hN9.cell 2
     by_cases hx : HS = h
     ·have HY := hid (HIH.out hx)
      have q2 := zqz hx
      clear HNN HIH HHF hx
      go_wp2_with fail
      (try simp only [Exit.inBlock, Exit.then])
      refine bodyPost_ret (zw rfl _ _ w.heap.size _ #[.int .i64 dI, .int .i64 zI, .slice A es.length c] rfl (zba hR9 _ _ _) za8 zbh) rfl ?_
      exact HYS.out _ (zat hB09 (Nat.le_refl _) _ _ _) (((hl9.setCell (p := ⟨w.heap.size, 0, none⟩) hnr _).setCell (p := ⟨w.heap.size, 1, none⟩) hnr _).setCell (p := ⟨w.heap.size, 2, none⟩) hnr _) HY.out
     ·have HN := hid (HNN.out hx)
      have q2 := zol hx
      clear HNN HIH HHF hx
      go_wp2_with fail
      (try simp only [Exit.inBlock, Exit.then])
      refine bodyPost_ret (zw rfl _ _ w.heap.size _ #[.int .i64 0, .int .i64 0, .slice none 0 0] rfl (zba hR9 _ _ _) za8 zbh) rfl ?_
      exact HF.out _ 3 (zat hB09 (Nat.le_refl _) _ _ _) HN.out HE2.out
end Go.Proofs.YtgpbpgpolpakjaaGreatDoor
