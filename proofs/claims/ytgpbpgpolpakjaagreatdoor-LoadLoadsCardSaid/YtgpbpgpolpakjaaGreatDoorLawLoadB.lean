/- Proof text. -/
import Derived.Test.YtgpbpgpolpakjaaGreatDoorLoadP
import Derived.Test.YtgpbpgpolpakjaaGreatDoorLawSemiP
import Derived.Test.YtgpbpgpolpakjaaGreatDoorRefTabQ
import Derived.BigQuiet
set_option maxHeartbeats 8000000
set_option linter.unusedVariables false
set_option linter.unusedSimpArgs false
set_option maxRecDepth 100000
namespace Go.Proofs.YtgpbpgpolpakjaaGreatDoor
open Go.RowKit Go.Shelf L
def zro : ByteArray := { data := #[49, 10, 91] }
theorem L.zvx : spans (nb zro) = [(0, 1), (2, 3)] := by decide +kernel
theorem zfx (w : World) : Calls Tryz.prog 17 #[] w fun e w' => e = .returned (.bool true) ∧ Below w.heap.size w w' := by
 have HB := hid (z4l zro 3 w (by decide) (by omega) (by omega))
 have hl : (recs (nb zro) 3).length = 2 := by rw [zda, zvx]; rfl
 have HL := hid (fun g W hW => zoh g zro 3 W hW)
 rw [hl] at HL
 unfold zk7 at HB
 go_enter Tryz.func17, Tryz.ntmps17
 go_wp2_with fail
 refine (HB.out).mono ?_
 rintro e w1 ⟨g, rfl, hg, hB1⟩
 go_wp2_with fail
 refine (HL.out g _ hg).mono ?_
 rintro e w' ⟨rfl, rfl⟩
 go_wp2_with fail
 go_ret
 exact ⟨by first | rfl | simp, hB1⟩
theorem zoj (s : ByteArray) : (s.toList == s.toList) = true := by rw [beq_iff_eq]
theorem zpn (g : Nat) (s : ByteArray) (deep : Nat) (i : Int) (w : World) (h : zc0 w g s deep) (hi : ((recs (nb s) deep).length : Int) ≤ i) :
  Calls Tryz.prog 65 #[.pointer (some ⟨g, 0, none⟩), .int .i64 i] w fun e w' => e = .returned (.tuple #[.agg #[.int .i64 0, .int .i64 0, .int .i64 0, .int .i64 0], .int .i64 2]) ∧ Below w.heap.size w w' := by
 obtain ⟨Al, cl, Ai, ci, ps, h1, h2, _⟩ := h
 generalize recs (nb s) deep = X at *
 have hR0 := za.new w 96 #[.int .i64 0, .int .i64 0, .int .i64 0, .int .i64 0]
 have hB0 : Below w.heap.size w (w.alloc (.cells #[.int .i64 0, .int .i64 0, .int .i64 0, .int .i64 0] 96)) := (Below.refl _ _).alloc (Nat.le_refl _) _
 have k2 := (h1.below hB0).cell 2
 have hgl := h1.lt
 have f0 := hR0.frozen 0
 have f1 := hR0.frozen 1
 have f2 := hR0.frozen 2
 have f3 := hR0.frozen 3
 have r0 := hR0.cell 0
 have r1 := hR0.cell 1
 have r2 := hR0.cell 2
 have r3 := hR0.cell 3
 clear h1 h2
 have h0 : ¬ i < 0 := by omega
 have d1 : decide (i < 0) = false := decide_eq_false h0
 have hg : (X.length : Int) ≤ i := hi
 have d2 : decide ((X.length : Int) ≤ i) = true := decide_eq_true hg
 go_enter Tryz.func65, Tryz.ntmps65
 go_wp2_with fail
 (try simp only [Exit.inBlock, Exit.then])
 refine bodyPost_ret (zk8 rfl _ _ w.heap.size _ _ rfl hR0 zqx zuk) rfl ?_
 exact ⟨rfl, hB0⟩
theorem zmz (g : Nat) (s : ByteArray) (deep : Nat) (w : World) (h : zc0 w g s deep) (hT : Tab w) (hs : s.size ≤ 4096) (h1 : 1 ≤ deep) (h2 : deep ≤ 4096) :
  Calls Tryz.prog 19 #[.pointer (some ⟨g, 0, none⟩), .string s, .int .i64 (deep : Nat)] w fun e w' => e = .returned (.bool true) ∧ Below w.heap.size w w' := by
 have hfew := ze5 (nb s) deep
 rw [zf] at hfew
 have HR := hid (fun W => zk3 s deep W hs h1 h2)
 have HFI := hid (fun W hW => zvt g s deep W hW)
 have HDE := hid (fun W hW => zvu g s deep W hW)
 have HLE := hid (fun W hW => zoh g s deep W hW)
 have HBY := hid (fun W hW hTW => zuo g s deep W hW hTW hs h1 h2)
 have HRB := hid (fun W => zpm s deep W hs h1 h2)
 have HRI := hid (fun (i : Nat) (hi : i < (recs (nb s) deep).length) W hW => zul g s deep i W hW hi (by omega))
 have HXI := hid (fun (i : Nat) (hi : i < (recs (nb s) deep).length) W hW => zvv g s deep i W hW hi)
 have HRO := hid (fun W hW => zpn g s deep ((recs (nb s) deep).length : Nat) W hW (Int.le_refl _))
 have HXO := hid (fun W hW => zum g s deep (-1) W hW (.inl (by omega)))
 have HOK := hid (fun r (hr : r ∈ recs (nb s) deep) => zhf hr hs)
 have HSA := hid (show ∀ W, Below w.heap.size w W → zc0 W g s deep ∧ Tab W from fun W hW => ⟨h.below hW, hT.below hW⟩)
 have hI1 := zoj (tabS s deep)
 have hS1 := zoj s
 clear h hT
 generalize tabS s deep = I at *
 go_enter Tryz.func19, Tryz.ntmps19
 go_wp2_with fail
 refine (HR.out _).mono ?_
 rintro e w1 ⟨Al, cl, rfl, hl1, hB1⟩
 go_wp2_with fail
 refine (HFI.out _ (HSA.out _ hB1).1).mono ?_
 rintro e w' ⟨rfl, rfl⟩
 go_wp2_with fail
 refine (HDE.out _ (HSA.out _ hB1).1).mono ?_
 rintro e w' ⟨rfl, rfl⟩
 go_wp2_with fail
 refine (HLE.out _ (HSA.out _ hB1).1).mono ?_
 rintro e w' ⟨rfl, rfl⟩
 generalize recs (nb s) deep = X at *
 go_wp2_with fail
 refine (HBY.out _ (HSA.out _ hB1).1 (HSA.out _ hB1).2).mono ?_
 rintro e w2 ⟨rfl, hB2⟩
 have hB02 := hB1.trans (hB2.mono hB1.size)
 go_wp2_with fail
 refine (HRB.out _).mono ?_
 rintro e w3 ⟨rfl, hB3⟩
 have hB03 := hB02.trans (hB3.mono hB02.size)
 have hB13 := hB2.trans (hB3.mono hB2.size)
 clear hB2 hB3 hB02 HBY HRB HFI HDE HLE HR
 go_wp2_with fail
 go_loopw [9] (fun iv wr => ∃ k : Nat, k ≤ X.length ∧ iv = .int .i64 (k : Nat) ∧ Below w.heap.size w wr ∧ Below w1.heap.size w1 wr) (fun iv _ => X.length - (intOf iv).toNat)
 case atStart => exact ⟨0, by omega, rfl, hB03, hB13⟩
 case round =>
  obtain ⟨k, hk, rfl, hB, hBl⟩ := hrel
  clear hB03 hB13
  rcases Nat.lt_or_ge k X.length with hlt | hge
  ·have hki : (k : Int) < (X.length : Int) := by omega
   have hk0 : (0 : Int) ≤ (k : Int) := by omega
   have hkW := zg k (by omega)
   have hok := HOK.out X[k] (List.getElem_mem hlt)
   have HRK := hid (HRI.out k hlt)
   have HXK := hid (HXI.out k hlt)
   have hrc := fun W (hW : Lst W Al (recC X)) => zfg hW hlt
   have HRC := hid hrc
   clear hrc
   generalize X[k] = r at *
   obtain ⟨ra, rb, rv, rp⟩ := r
   unfold z1c at HRK
   dsimp only at *
   obtain ⟨o1, o2, o3, o4, o5, o6, o7⟩ := hok
   go_wp2_with fail
   refine (HRK.out _ (HSA.out _ hB).1).mono ?_
   rintro e w4 ⟨rfl, hB4⟩
   have hBa := hB.trans (hB4.mono hB.size)
   have hBla := hBl.trans (hB4.mono hBl.size)
   have hRa := za.new w4 96 #[.int .i64 (ra : Nat), .int .i64 (rb : Nat), .int .i64 (rv : Nat), .int .i64 (rp : Nat)]
   have hBb := hBa.alloc hBa.size (.cells #[.int .i64 (ra : Nat), .int .i64 (rb : Nat), .int .i64 (rv : Nat), .int .i64 (rp : Nat)] 96)
   have hBlb := hBla.alloc hBla.size (.cells #[.int .i64 (ra : Nat), .int .i64 (rb : Nat), .int .i64 (rv : Nat), .int .i64 (rp : Nat)] 96)
   obtain ⟨gl, ol, hAl, q0, q1, q2, q3⟩ := HRC.out _ (hl1.below hBlb)
   subst hAl
   have a0 := hRa.cell 0
   have a1 := hRa.cell 1
   have a2 := hRa.cell 2
   have a3 := hRa.cell 3
   clear hBa hBla hB4
   go_wp2_with fail
   generalize (w4.alloc (.cells #[.int .i64 (ra : Nat), .int .i64 (rb : Nat), .int .i64 (rv : Nat), .int .i64 (rp : Nat)] 96)) = w5 at *
   refine (HXK.out _ (HSA.out _ hBb).1).mono ?_
   rintro e w' ⟨⟨gi, hv, rfl, hix⟩ | ⟨hv, rfl⟩, rfl⟩
   ·obtain rfl : rv = 1 := hv
    have HI14 := hid (fun n => z4e gi (s.extract ra rb) (w5.drewN n) (hix.below (below_drewN (Below.refl _ _) n)) ((HSA.out _ (below_drewN hBb n)).2) (by rw [ByteArray.size_extract]; omega))
    have hsl1 : (ra : Int) ≤ (rb : Int) := by omega
    have hsl2 : (rb : Int) ≤ (s.size : Int) := by omega
    have hsl3 : (0 : Int) ≤ (ra : Int) := by omega
    go_wp2_with fail
    go_quiet (fail)
    go_wp2_with fail
    refine (HI14.out _).mono ?_
    rintro e w6 ⟨rfl, hB6⟩
    go_wp2_with fail
    go_roundw
    case rel => exact ⟨k + 1, hlt, by go_num, (below_drewN hBb _).trans (hB6.mono (below_drewN hBb _).size), (below_drewN hBlb _).trans (hB6.mono (below_drewN hBlb _).size)⟩
    case measure => simp [intOf]; omega
   ·have hvb : ((rv : Int) != 1) = true := by rw [bne_iff_ne]; omega
    have hvc : ¬ ((rv : Int) = 1) := by omega
    go_wp2_with fail
    go_quiet (fail)
    go_wp2_with fail
    go_roundw
    case rel => exact ⟨k + 1, hlt, by go_num, below_drewN hBb _, below_drewN hBlb _⟩
    case measure => simp [intOf]; omega
  ·obtain rfl : k = X.length := by omega
   have hXN : ¬ ((X.length : Int) < (X.length : Int)) := by omega
   go_wp2_with fail
   refine (HRO.out _ (HSA.out _ hB).1).mono ?_
   rintro e w4 ⟨rfl, hB4⟩
   have hBa := hB.trans (hB4.mono hB.size)
   have hBb := hBa.alloc hBa.size (.cells #[.int .i64 0, .int .i64 0, .int .i64 0, .int .i64 0] 96)
   go_wp2_with fail
   refine (HXO.out _ (HSA.out _ hBb).1).mono ?_
   rintro e w' ⟨rfl, rfl⟩
   go_wp2_with fail
   go_ret
   exact ⟨by first | rfl | simp, hBb⟩
end Go.Proofs.YtgpbpgpolpakjaaGreatDoor
