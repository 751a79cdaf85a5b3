/- Walks: how many bits a nest takes; the law's own node. -/
import Derived.Test.YtlpnbkfcbamnbaaDoorNestM
set_option linter.unusedVariables false
set_option linter.unusedSimpArgs false
set_option maxRecDepth 100000
namespace Go.Proofs.YtlpnbkfcbamnbaaDoor
open Go.RowKit L

set_option maxHeartbeats 1000000 in
theorem nSize_any (s : Nat) (bs : List Bool) (w : World) (hs : NestAt w s bs) (hsm : bs.length ≤ 4294967296) :
    Calls Tryd.prog 53 #[.pointer (some ⟨s, 0, none⟩)] w fun e w' => ∃ n : Nat, e = .returned (.int .i64 (n : Nat)) ∧ n ≤ 4 * bs.length + 4096 ∧ ∃ m, w' = w.drewN m := by
  obtain ⟨gx, gt, gl, gc, gd, A, c, hh, Ad, cd, A1, c1, l1, A0, c0, l0, h1, h2, h3⟩ := hs
  have k1 : w.cell? ⟨s, 1, none⟩ = some (.pointer (some ⟨gt, 0, none⟩)) := h1.cell 1
  have k2 : w.cell? ⟨s, 2, none⟩ = some (.pointer (some ⟨gc, 0, none⟩)) := h1.cell 2
  have HM := hid (fun W hW => mmSize_any gt gl gx A c bs hh W hW)
  have HC := hid (fun W hW => chSize_any gc gd gx A c bs Ad cd A1 c1 l1 A0 c0 l0 W hW)
  have hszb : 640 * 2 ^ hh ≤ 3 * bs.length + 2048 := by
    rcases h2.least with h0 | h0
    · subst h0; simp
    · omega
  have q1 := h3.half1.1
  have q0 := h3.half0.1
  have qb := kc_both bs
  have hsz4 : 128 * (bs.length / 512 + 1) + 64 * (l1.length + l0.length) ≤ bs.length / 2 + 512 := by omega
  generalize 640 * 2 ^ hh = sz at *
  generalize 128 * (bs.length / 512 + 1) + 64 * (l1.length + l0.length) = sy at *
  go_enter Tryd.func53, Tryd.ntmps53
  go_wp2_with fail
  go_quiet ((first
    | (go_at_call 100; exact quiet_left (HM.out _ (by exact h2)))
    | (go_at_call 87; exact quiet_join (HC.out _ (by exact h3)))))
  go_wp2_with fail
  go_ret
  exact ⟨sz + sy, by first | rfl | simp, by omega, _, rfl⟩

set_option maxHeartbeats 4000000 in
theorem lawnode8_any (s : Nat) (A : Option Addr) (c : Nat) (bs : List Bool) (L : List Nd) (u : Nat) (k : Int) (w : World) (hs : NestAt w s bs) (hL : LOk bs L) (b : Bal (bitAt bs) bs.length) (hu : bitAt bs u = true) (hl : NdAt w A L) (hsm : bs.length ≤ 4000) :
    Calls Tryd.prog 52 #[.pointer (some ⟨s, 0, none⟩), .slice A L.length c, .int .i64 (cP (bitAt bs) u : Nat), .int .i64 k] w fun e w' => e = .returned (.bool true) ∧ Below w.heap.size w w' := by
  have hun := bitAt_lt hu
  have hLu := hL.nd u hun hu
  have hkL := (List.getElem?_eq_some_iff.1 hLu).1
  obtain ⟨g, o, rfl, hg, hc⟩ := hl.cells (by omega)
  obtain ⟨c0, c1, c2, c3⟩ := hc _ _ hLu
  obtain ⟨h1, h2, h3, h4, h5, h6⟩ := b.behN hu hun
  have hop : backN (bitAt bs) 0 (behN (bitAt bs) bs.length u) 0 = (u : Int) := by
    obtain ⟨m, g1, g2, g3, g4, g5, g6, g7⟩ := b.close hu hun
    have : behN (bitAt bs) bs.length u = m := by rw [g3] at h6; omega
    rw [this]; exact g7
  have HCL := hid (fun W hW => (show Calls Tryd.prog 43 #[.pointer (some ⟨s, 0, none⟩), .int .i64 (u : Nat)] W fun e w' => e = .returned (.tuple #[.int .i64 ((behN (bitAt bs) bs.length u : Int) - 1), .int .i64 0]) ∧ ∃ m, w' = W.drewN m from by have := nClose_at s bs u W hW hu; rwa [h6] at this))
  have HOP := hid (fun W hW => (show Calls Tryd.prog 94 #[.pointer (some ⟨s, 0, none⟩), .int .i64 ((behN (bitAt bs) bs.length u : Int) - 1)] W fun e w' => e = .returned (.tuple #[.int .i64 (u : Nat), .int .i64 0]) ∧ ∃ m, w' = W.drewN m from by
    have := nOpen_at s bs (behN (bitAt bs) bs.length u - 1) W hW (by omega) h5
    rwa [show behN (bitAt bs) bs.length u - 1 + 1 = behN (bitAt bs) bs.length u from by omega, hop, show ((behN (bitAt bs) bs.length u - 1 : Nat) : Int) = (behN (bitAt bs) bs.length u : Int) - 1 from by omega] at this))
  have HDE := hid (fun W hW => (show Calls Tryd.prog 35 #[.pointer (some ⟨s, 0, none⟩), .int .i64 (u : Nat)] W fun e w' => e = .returned (.tuple #[.int .i64 (e0 (bitAt bs) u), .int .i64 0]) ∧ ∃ m, w' = W.drewN m from nDepth_at s bs u W hW hu))
  have HRA := hid (fun W hW => (show Calls Tryd.prog 95 #[.pointer (some ⟨s, 0, none⟩), .int .i64 (u : Nat)] W fun e w' => e = .returned (.tuple #[.int .i64 (cP (bitAt bs) u : Nat), .int .i64 0]) ∧ Below W.heap.size W w' from by have := nRank_at s bs u W hW hu; rwa [kc_cP bs u (by omega)] at this))
  have hLl : L.length ≤ 1000000 := by rw [hL.len]; have := cP_le (bitAt bs) bs.length; omega
  have HCH := hid (fun m W (hW : NdAt W (some ⟨g, o, none⟩) L) => by have := refChildren_any (some ⟨g, o, none⟩) c L m W hW hLl; rw [hL.kids m] at this; exact this)
  have HPL := hid (fun A c W hW => tPlace A c W hL b hu hW (by omega))
  have HCO := hid (fun W hW => tCount s W hW hL b hu)
  have HPA := hid (fun W hW => tParent s W hW hL b hu)
  have HFI := hid (fun W hW => tFirst s W hW hL b hu)
  have HNX := hid (fun W hW => tNext s W hW hL b hu rfl)
  have HPR := hid (fun W hW => tPrev s W hW hL b hu rfl)
  have HCD := hid (fun W hW => tChild s k W hW hL b hu)
  have HIS := hid (fun a b m W hW h => is8_any (some ⟨g, o, none⟩) c L a b m W hW h)
  have HNU := hid (fun A c l i W (h : Lst W A (cells8 (intsL l))) => (show Calls Tryd.prog 99 #[.slice A l.length c, .int .i64 i] W fun e w' => e = .returned (.int .i64 (numN (intsL l) i)) ∧ W = w' from by have := number8_any A c (intsL l) i W h; rwa [intsL_length] at this))
  have hbl : cP (isS (bitAt bs) (paN (bitAt bs) u)) u ≤ u := cP_le _ _
  have hrk : cP (bitAt bs) u < L.length := hkL
  have k0 : w.cell? ⟨g, o + cP (bitAt bs) u * 4, none⟩ = some (.int .i64 (u : Nat)) := c0
  have k1 : w.cell? ⟨g, o + cP (bitAt bs) u * 4 + 1, none⟩ = some (.int .i64 ((behN (bitAt bs) bs.length u : Int) - 1)) := c1
  have k2 : w.cell? ⟨g, o + cP (bitAt bs) u * 4 + 2, none⟩ = some (.int .i64 (paN (bitAt bs) u)) := c2
  have k3 : w.cell? ⟨g, o + cP (bitAt bs) u * 4 + 3, none⟩ = some (.int .i64 (e0 (bitAt bs) u)) := c3
  clear c0 c1 c2 c3 hLu hc h1 h2 h3 h4 h5 h6 hop hkL hL b
  generalize paN (bitAt bs) u = pa at *
  generalize cP (isS (bitAt bs) pa) u = at' at *
  generalize (behN (bitAt bs) bs.length u : Int) - 1 = en at *
  generalize e0 (bitAt bs) u = dp at *
  generalize kidsL bs L = KL at *
  generalize cP (bitAt bs) u = R at *
  have hrI : (R : Int) < (L.length : Int) := by omega
  have hr0 : (0 : Int) ≤ (R : Int) := by omega
  have bX := BlkIs.new w 65 #[.int .i64 (u : Nat), .int .i64 en, .int .i64 pa, .int .i64 dp]
  have hB1 : Below w.heap.size w (w.alloc (.cells #[.int .i64 (u : Nat), .int .i64 en, .int .i64 pa, .int .i64 dp] 65)) := (Below.refl _ _).alloc (Nat.le_refl _) _
  go_enter Tryd.func52, Tryd.ntmps52
  go_wp2_with fail
  generalize w.alloc (.cells #[.int .i64 (u : Nat), .int .i64 en, .int .i64 pa, .int .i64 dp] 65) = w1 at *
  have hs1 := hs.below hB1
  have hl1 : NdAt w1 (some ⟨g, o, none⟩) L := Lst.below hl hB1
  have hz1 := hB1.size
  have x0 := bX.cell 0
  have x1 := bX.cell 1
  have x2 := bX.cell 2
  have x3 := bX.cell 3
  clear hs hl k0 k1 k2 k3
  refine (HCL.out _ hs1).mono ?_
  rintro e w' ⟨rfl, n1, rfl⟩
  go_wp2_with fail
  refine (HOP.out _ (by exact hs1)).mono ?_
  rintro e w' ⟨rfl, n2, rfl⟩
  go_wp2_with fail
  refine (HDE.out _ (by exact hs1)).mono ?_
  rintro e w' ⟨rfl, n3, rfl⟩
  go_wp2_with fail
  refine (HRA.out _ (by exact hs1)).mono ?_
  rintro e w2 ⟨rfl, hB2'⟩
  have hB2 : Below w1.heap.size w1 w2 := (below_drewN (Below.refl _ _) (n1 + n2 + n3)).trans (by simpa [World.drewN_drewN, Nat.add_assoc] using hB2')
  have hs2 := hs1.below hB2
  have hl2 : NdAt w2 (some ⟨g, o, none⟩) L := Lst.below hl1 hB2
  have bX2 := bX.below hB2
  have y0 := bX2.cell 0
  have y1 := bX2.cell 1
  have y2 := bX2.cell 2
  have y3 := bX2.cell 3
  have hz2 := hB2.size
  clear hB2' x0 x1 x2 x3
  have KC := hid (show ∀ W, Below w2.heap.size w2 W → W.cell? ⟨w.heap.size, 2, none⟩ = some (.int .i64 pa) from fun W hW => (bX2.below hW).cell 2)
  have HC1 := hid (fun W (hW : Below w2.heap.size w2 W) => (HCH.out (R : Nat) W (Lst.below hl2 hW)).mono (R' := fun e w' => ∃ A1 c1, e = .returned (.slice A1 (KL (R : Nat)).length c1) ∧ Lst w' A1 (cells8 (intsL (KL (R : Nat)))) ∧ Below w2.heap.size w2 w' ∧ Below W.heap.size W w') (fun e w' ⟨A1, c1, h1, h2, h3⟩ => ⟨A1, c1, h1, h2, hW.trans (h3.mono hW.size), h3⟩))
  have HC2 := hid (fun W (hW : Below w2.heap.size w2 W) => (HCH.out pa W (Lst.below hl2 hW)).mono (R' := fun e w' => ∃ A1 c1, e = .returned (.slice A1 (KL pa).length c1) ∧ Lst w' A1 (cells8 (intsL (KL pa))) ∧ Below w2.heap.size w2 w' ∧ Below W.heap.size W w') (fun e w' ⟨A1, c1, h1, h2, h3⟩ => ⟨A1, c1, h1, h2, hW.trans (h3.mono hW.size), h3⟩))
  have hB22 := Below.refl w2.heap.size w2
  go_wp2_with fail
  go_region_held3 (fun w' => Below w2.heap.size w2 w' ∧ w'.cell? ⟨w.heap.size, 2, none⟩ = some (.int .i64 pa)) (first | exact ⟨hB22.drew, y2⟩ | exact ⟨hB22, y2⟩ | exact ⟨e1, KC.out _ e1⟩ | exact ⟨e2, KC.out _ e2⟩ | assumption)
    (first
     | (go_at_call 96; with_reducible refine (HC1.out _ (by first | assumption | exact And.left (by assumption))).mono ?_; rintro e w6 ⟨A6, c6, rfl, hlA, e1, e3⟩)
     | (go_at_call 96; with_reducible refine (HC2.out _ (by first | assumption | exact And.left (by assumption))).mono ?_; rintro e w7 ⟨A7, c7, rfl, hlB, e2, e4⟩))
  all_goals go_wp2_with fail
  (with_reducible refine (HPL.out _ _ _ hlB).mono ?_)
  rintro e w' ⟨rfl, rfl⟩
  have hs7 := hs2.below e2
  have hl7 : NdAt w7 (some ⟨g, o, none⟩) L := Lst.below hl2 e2
  have hlA7 := hlA.below e4
  have bX7 := bX2.below e2
  have y0 := bX7.cell 0
  have y1 := bX7.cell 1
  have y2 := bX7.cell 2
  have y3 := bX7.cell 3
  have hz7 := e2.size
  have hBw7 := hB1.trans ((hB2.mono hz1).trans (e2.mono (by omega)))
  have KX := hid (show ∀ W, Below w7.heap.size w7 W → (W.cell? ⟨w.heap.size, 0, none⟩ = some (.int .i64 (u : Nat)) ∧ W.cell? ⟨w.heap.size, 2, none⟩ = some (.int .i64 pa)) from fun W hW => ⟨(bX7.below hW).cell 0, (bX7.below hW).cell 2⟩)
  have KS := hid (show ∀ W, Below w7.heap.size w7 W → NestAt W s bs from fun W hW => hs7.below hW)
  have KN := hid (show ∀ W, Below w7.heap.size w7 W → NdAt W (some ⟨g, o, none⟩) L from fun W hW => Lst.below hl7 hW)
  have KA := hid (show ∀ W, Below w7.heap.size w7 W → Lst W A6 (cells8 (intsL (KL (R : Nat)))) from fun W hW => hlA7.below hW)
  have KB := hid (show ∀ W, Below w7.heap.size w7 W → Lst W A7 (cells8 (intsL (KL pa))) from fun W hW => hlB.below hW)
  clear hB1 hB2 e1 e2 e3 e4 hs1 hs2 hl1 hl2 hlA hlB bX bX2 bX7 HC1 HC2 KC hlA7 hB22 HCH HCL HOP HDE HRA
  go_wp2_with fail
  refine (HCO.out _ hs7).mono ?_
  rintro e w8 ⟨rfl, f8⟩
  have z8 := (KX.out _ f8).1
  go_wp2_with fail
  refine (HPA.out _ (KS.out _ f8)).mono ?_
  rintro e w9 ⟨a, b, rfl, i9, g9⟩
  have f9 := f8.trans (g9.mono f8.size)
  have z9 := (KX.out _ f9).1
  go_wp2_with fail
  refine (HFI.out _ (KS.out _ f9)).mono ?_
  rintro e w10 ⟨c', d, rfl, i10, g10⟩
  have f10 := f9.trans (g10.mono f9.size)
  have z10 := (KX.out _ f10).1
  go_wp2_with fail
  refine (HNX.out _ (KS.out _ f10)).mono ?_
  rintro e w11 ⟨i', j', rfl, i11, g11⟩
  have f11 := f10.trans (g11.mono f10.size)
  have z11 := (KX.out _ f11).1
  go_wp2_with fail
  refine (HPR.out _ (KS.out _ f11)).mono ?_
  rintro e w12 ⟨p', q', rfl, i12, g12⟩
  have f12 := f11.trans (g12.mono f11.size)
  have z12 := (KX.out _ f12).1
  go_wp2_with fail
  refine (HCD.out _ (KS.out _ f12)).mono ?_
  rintro e w13 ⟨u', v', rfl, i13, g13⟩
  have f13 := f12.trans (g13.mono f12.size)
  have z13 := (KX.out _ f13).1
  have x13 := (KX.out _ f13).2
  have l13 := KN.out _ f13
  have a13 := KA.out _ f13
  have b13 := KB.out _ f13
  have hBe := hBw7.trans (f13.mono (by have := hBw7.size; omega))
  clear f8 f9 f10 f11 f12 f13 g9 g10 g11 g12 g13 z8 z9 z10 z11 z12 y0 y1 y2 y3 hs7 hl7
  have J9 := hid i9
  have J10 := hid i10
  have J11 := hid i11
  have J12 := hid i12
  have J13 := hid i13
  clear i9 i10 i11 i12 i13
  have hat4 : at' ≤ 4000 := by omega
  go_wp2_with fail
  (with_reducible refine (HIS.out _ _ _ _ l13 J9.out).mono ?_)
  rintro e w' ⟨rfl, rfl⟩
  go_wp2_with fail
  (with_reducible refine (HNU.out _ _ _ _ _ a13).mono ?_)
  rintro e w' ⟨rfl, rfl⟩
  go_wp2_with fail
  (with_reducible refine (HIS.out _ _ _ _ l13 J10.out).mono ?_)
  rintro e w' ⟨rfl, rfl⟩
  go_wp2_with fail
  (with_reducible refine (HNU.out _ _ _ _ _ b13).mono ?_)
  rintro e w' ⟨rfl, rfl⟩
  go_wp2_with fail
  (with_reducible refine (HIS.out _ _ _ _ l13 J11.out).mono ?_)
  rintro e w' ⟨rfl, rfl⟩
  go_wp2_with fail
  (with_reducible refine (HNU.out _ _ _ _ _ b13).mono ?_)
  rintro e w' ⟨rfl, rfl⟩
  go_wp2_with fail
  (with_reducible refine (HIS.out _ _ _ _ l13 J12.out).mono ?_)
  rintro e w' ⟨rfl, rfl⟩
  go_wp2_with fail
  (with_reducible refine (HNU.out _ _ _ _ _ a13).mono ?_)
  rintro e w' ⟨rfl, rfl⟩
  go_wp2_with fail
  (with_reducible refine (HIS.out _ _ _ _ l13 J13.out).mono ?_)
  rintro e w' ⟨rfl, rfl⟩
  go_wp2_with fail
  go_ret
  exact ⟨rfl, hBe⟩
end Go.Proofs.YtlpnbkfcbamnbaaDoor
