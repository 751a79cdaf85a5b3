/- Proof text. -/
import Derived.Test.YtgpbpgpolpakjaaGreatDoorBitsP
import Derived.Test.YtgpbpgpolpakjaaGreatDoorMaths
import Derived.Deep.AppendLies
import Derived.Deep.RegionLaw
import Derived.Test.YtgpbpgpolpakjaaGreatDoorWordP
import Derived.Deep.RegionHeld3
import Derived.Shelf.Abstract
set_option maxHeartbeats 4000000
set_option linter.unusedVariables false
set_option linter.unusedSimpArgs false
set_option maxRecDepth 100000
namespace Go.Proofs.YtgpbpgpolpakjaaGreatDoor
open Go.RowKit L
theorem Tryz.infoEntry : (Tryz.prog.info? 224).map (fun i => (i.zero, i.size, i.bytes)) = some (some (.agg #[.int .u64 0, .int .u64 0]), 2, 16) := by kernel_rfl
def zck (w : World) (g gx : Nat) (A : Option Addr) (c : Nat) (bs : List Bool) (Ad : Option Addr) (cd : Nat) : Prop :=
 za w g 222 #[.pointer (some ⟨gx, 0, none⟩), .slice Ad (bs.length / 512 + 1) cd] ∧ Lst w Ad (u64s (entries bs (bs.length / 512 + 1))) ∧ zo w gx A c bs
section
variable {w : World} {g gx : Nat} {A : Option Addr} {c : Nat} {bs : List Bool} {Ad : Option Addr} {cd : Nat}
theorem zck.blk (h : zck w g gx A c bs Ad cd) : za w g 222 #[.pointer (some ⟨gx, 0, none⟩), .slice Ad (bs.length / 512 + 1) cd] := h.1
theorem zck.lst (h : zck w g gx A c bs Ad cd) : Lst w Ad (u64s (entries bs (bs.length / 512 + 1))) := h.2.1
theorem zck.row (h : zck w g gx A c bs Ad cd) : zo w gx A c bs := h.2.2
theorem zck.below {w' : World} (h : zck w g gx A c bs Ad cd) (hb : Below w.heap.size w w') : zck w' g gx A c bs Ad cd := ⟨h.1.below hb, h.2.1.below hb, h.2.2.below hb⟩
end
theorem cell_two_at (w : World) (x y : Value) (e : TypeId) (k : Nat) (hk : k = w.heap.size) : ∀ j u, [x, y][j]? = some u → (w.alloc (.cells #[x, y] e)).cell? ((⟨k, 0, none⟩ : Addr).add j) = some u := by
 subst hk
 intro j u hu
 rw [zdk, (za.new w e #[x, y]).cell j]
 simpa using hu
theorem zxq (bs : List Bool) (b j n : Nat) (hn : n = cnt bs (512 * b + 64 * (j + 1)) - cnt bs (512 * b)) (h : j < 7) : bits BinOp.or IntKind.u64 (packed bs b j : Int) (IntKind.u64.wrap ((n : Int) * 2 ^ (9 * j))) = ((packed bs b (j + 1) : Nat) : Int) := by
 have h1 := zh0 bs b j (by omega)
 rw [zgb _ _ _ (by omega), hn, zy1 bs b j h]
theorem zuy (gx : Nat) (A : Option Addr) (c : Nat) (bs : List Bool) (w : World) (hr : zo w gx A c bs) :
  Calls Tryz.prog 135 #[.pointer (some ⟨gx, 0, none⟩)] w fun e w' => ∃ Ad cd, e = .returned (.pointer (some ⟨w.heap.size, 0, none⟩)) ∧ zck w' w.heap.size gx A c bs Ad cd ∧ Below w.heap.size w w' := by
 have hsm := hr.small
 obtain ⟨i0, hi0, hz0, hz1, hz2⟩ := info_parts Tryz.infoEntry
 go_enter Tryz.func135, Tryz.ntmps135
 go_wp2_with fail
 have hx0 : za (w.alloc (.cells #[.pointer (some ⟨gx, 0, none⟩), .slice none 0 0] 222)) w.heap.size 222 #[.pointer (some ⟨gx, 0, none⟩), .slice none 0 0] := za.new _ _ _
 go_loopw [4, 5] (fun all at_ wr => ∃ (b : Nat) (Ad : Option Addr) (cd : Nat) (p : Nat), p = 512 * b ∧ b ≤ bs.length / 512 + 1 ∧ all = .int .i64 (cnt bs p : Nat) ∧ at_ = .int .i64 p ∧ za wr w.heap.size 222 #[.pointer (some ⟨gx, 0, none⟩), .slice Ad b cd] ∧
   wr.ownsRow w.heap.size 224 2 (.slice Ad b cd) b (u64s (entries bs b)) ∧ Below w.heap.size w wr) (fun _ at_ _ => bs.length + 1024 - (intOf at_).toNat)
 case atStart => exact ⟨0, none, 0, 0, by omega, by omega, rfl, rfl, hx0, World.ownsRow_nil _ _ _ _, (Below.refl _ _).alloc (Nat.le_refl _) _⟩
 case round =>
  obtain ⟨b, Ad, cd, p, hp, hb, rfl, rfl, hx, hown, hB⟩ := hrel
  have hsz := hB.size
  have hg := hx.lt
  clear hx0
  have hr2 := hr.below hB
  have hcl := hr2.cells.2
  have hcn := zld bs p
  have HP := hid hp
  rcases Nat.lt_or_ge bs.length p with hlt | hge
  ·have hki : (bs.length : Int) < (p : Int) := by omega
   obtain rfl : b = bs.length / 512 + 1 := by omega
   clear hp
   go_wp2_with fail
   refine (zar gx _ _ hcl).mono ?_
   rintro e w' ⟨rfl, rfl⟩
   go_wp2
   go_ret
   exact ⟨Ad, cd, rfl, ⟨hx, Lst.of_own hown (by omega), hr2⟩, hB⟩
  ·have hki : (p : Int) ≤ (bs.length : Int) := by omega
   clear hp
   go_wp2_with fail
   refine (zar gx _ _ hcl).mono ?_
   rintro e w' ⟨rfl, rfl⟩
   go_wp2_with fail
   have hp63 : p ≤ 4294967296 := by omega
   have hbi : ((p : Int)) / 64 = 8 * (b : Int) := by have := HP.out; omega
   obtain ⟨wo, hwo⟩ : ∃ wo, wo = wr := ⟨_, rfl⟩
   subst hwo
   go_loopw [7, 21] (fun inn k w2 => ∃ (j n : Nat), j ≤ 8 ∧ k = .int .i64 j ∧ inn = .int .i64 n ∧ Hid (n = cnt bs (512 * b + 64 * j) - cnt bs (512 * b)) ∧ za w2 wo.heap.size 224 #[.int .u64 (cnt bs p : Nat), .int .u64 (packed bs b (j - 1) : Nat)] ∧ Below wo.heap.size wo w2) (fun _ k _ => 8 - (intOf k).toNat)
   case atStart =>
    refine ⟨0, 0, by omega, rfl, rfl, hid (by simp), ?_, ?_⟩
    ·first | exact za.new _ _ _ | exact ((za.new _ _ _).put 0 _).put 1 _
    ·first | exact (Below.refl _ _).alloc (Nat.le_refl _) _ | exact (((Below.refl _ _).alloc (Nat.le_refl _) _).setCell (Nat.le_refl _) _).setCell (Nat.le_refl _) _
   case round =>
    obtain ⟨j, n, hj, rfl, rfl, HN, hxe, hB2⟩ := hrel
    have hn448 : n ≤ 64 * j := by have := HN.out; have := zr6 bs (512 * b) (64 * j); omega
    have hsz2 := hB2.size
    have hr3 := hr2.below hB2
    rcases Nat.lt_or_ge j 8 with hj8 | hj8
    ·have hji : (j : Int) < 8 := by omega
     have HW := hid (show zd1 bs (8 * (b : Int) + (j : Int)) = zk bs (8 * b + j) by unfold zd1; rw [if_neg (by omega)]; congr 1)
     have hcw := zr7 bs (8 * b + j) 64 (by omega)
     have HC := hid (show n + zi (zk bs (8 * b + j)) 64 = cnt bs (512 * b + 64 * (j + 1)) - cnt bs (512 * b) by
      have h1 := HN.out
      have h2 := cnt_mono bs (show 512 * b ≤ 512 * b + 64 * j by omega)
      rw [show 64 * (8 * b + j) = 512 * b + 64 * j from by omega] at hcw
      rw [show 512 * b + 64 * (j + 1) = 512 * b + 64 * j + 64 from by omega]
      omega)
     have hon := zbu (zk bs (8 * b + j)) 64
     have hwl := za3 bs (8 * b + j)
     clear hcw
     rcases Nat.eq_zero_or_pos j with h0 | h0
     ·subst h0
      have HW0 := hid (show zd1 bs (8 * (b : Int)) = zk bs (8 * b) by have := HW.out; simpa using this)
      have hon0 := zbu (zk bs (8 * b)) 64
      go_wp2_with fail
      refine (zdl gx A c bs _ _ hr3).mono ?_
      rw [HW0.out]
      rintro e w' ⟨rfl, rfl⟩
      go_wp2_with fail
      refine (zft _ _ _ hwl).mono ?_
      rw [show z8 64 = 64 from by decide]
      rintro e w' ⟨rfl, rfl⟩
      go_wp2
      go_roundw
      case rel => exact ⟨1, n + zi (zk bs (8 * b)) 64, by omega, rfl, by go_num, hid HC.out, hxe, hB2⟩
      case measure => simp [intOf]
     ·obtain ⟨q, rfl⟩ : ∃ q, j = q + 1 := ⟨j - 1, by omega⟩
      have e0 := hxe.cell 1
      have f0 := hxe.frozen 1
      have r1 : IntKind.i64.wrap ((q : Int) + 1 - 1) = (q : Int) := by rw [IntKind.wrap_i64]; omega
      have r2 : IntKind.i64.wrap (q : Int) = (q : Int) := by rw [IntKind.wrap_i64]; omega
      have r3 : IntKind.i64.wrap (9 * (q : Int)) = 9 * (q : Int) := by rw [IntKind.wrap_i64]; omega
      have r4 : (0 : Int) ≤ 9 * (q : Int) := by omega
      have r5 : (9 * (q : Int)).toNat = 9 * q := by omega
      have r6 : IntKind.u64.wrap (n : Int) = (n : Int) := by rw [IntKind.wrap_u64]; omega
      have H := hid (zxq bs b q n HN.out (by omega))
      go_wp2_with fail
      go_still_tail 10, (by kernel_rfl)
      change wpList _ _ _ _ _ wr.drew
      rw [H.out]
      have hB3 := (hB2.setCell (p := ⟨wo.heap.size, 1, none⟩) (Nat.le_refl _) (.int .u64 (packed bs b (q + 1) : Nat))).drew
      have hx3 : za (wr.setCell ⟨wo.heap.size, 1, none⟩ (.int .u64 (packed bs b (q + 1) : Nat))).drew wo.heap.size 224 #[.int .u64 (cnt bs p : Nat), .int .u64 (packed bs b (q + 1) : Nat)] := hxe.put 1 _
      have hr4 := hr2.below hB3
      have HW1 := hid (show zd1 bs (8 * (b : Int) + ((q : Int) + 1)) = zk bs (8 * b + (q + 1)) by have := HW.out; simpa using this)
      clear HW
      go_wp2_with fail
      refine (zdl gx A c bs _ _ hr4).mono ?_
      rw [HW1.out]
      rintro e w' ⟨rfl, rfl⟩
      go_wp2_with fail
      refine (zft _ _ _ hwl).mono ?_
      rw [show z8 64 = 64 from by decide]
      rintro e w' ⟨rfl, rfl⟩
      go_wp2
      go_roundw
      case rel => exact ⟨q + 2, n + zi (zk bs (8 * b + (q + 1))) 64, by omega, by go_num, by go_num, hid HC.out, hx3, hB3⟩
      case measure => simp [intOf] <;> omega
    ·obtain rfl : j = 8 := by omega
     have hji : ¬ ((8 : Int) < 8) := by omega
     have hx5 := hx.below hB2
     have hown5 := zac hown (Only.of_below (S := fun _ => False) hB2) (fun _ _ => id)
     have d0 : wr.cell? ⟨w.heap.size, 1, none⟩ = some (.slice Ad b cd) := hx5.cell 1
     have f0 := hx5.frozen 1
     have d1 : wr.cell? ⟨wo.heap.size, 0, none⟩ = some (.int .u64 (cnt bs p : Nat)) := hxe.cell 0
     have d2 : wr.cell? ⟨wo.heap.size, 1, none⟩ = some (.int .u64 (packed bs b 7 : Nat)) := hxe.cell 1
     have hne : (Value.slice Ad b cd).ownBlock ≠ some w.heap.size := hx5.ne_own hown5 (by decide)
     have hsz6 := hx5.lt
     have hb63 : b ≤ 8388609 := by have := HP.out; omega
     have hn512 : n ≤ 512 := by omega
     have hcn2 : cnt bs p + n ≤ 4294967296 + 512 := by omega
     have HNN := hid (show cnt bs p + n = cnt bs (512 * (b + 1)) by
      have h1 := HN.out
      have h2 := cnt_mono bs (show 512 * b ≤ 512 * b + 64 * 8 by omega)
      rw [show 512 * (b + 1) = 512 * b + 64 * 8 from by omega, show cnt bs p = cnt bs (512 * b) from by rw [HP.out]]
      omega)
     have HE := hid (show u64s (entries bs (b + 1)) = u64s (entries bs b) ++ [.int .u64 (cnt bs p : Nat), .int .u64 (packed bs b 7 : Nat)] by
      rw [zg4, HP.out]; simp [u64s])
     have HLE := hid (zfs bs b)
     go_wp2_with fail
     go_region_law
      ((refine step_append_lies _ rfl (.tmp 50) (.tmp 52) _ rfl w.heap.size 224 i0 _ 2 16 Tryz.underlying220 hi0 hz0 hz1 hz2 rfl (by omega) (.slice Ad b cd) b (u64s (entries bs b)) (by rfl) (by exact hown5.alloc _) ⟨wr.heap.size, 0, none⟩ 1 1 [.int .u64 (cnt bs p : Nat), .int .u64 (packed bs b 7 : Nat)] (by rfl) (by rfl) (by exact cell_two_at _ _ _ _ _ (by simp)) (by simp [Value.oneCell']) (by omega) (by simp only [maxLen]; omega) (by omega) (by simp; omega) (wr.heap.size + 1) (by simp) ?_;
        intro g2 c2 w2 hown2 hgr2 hat2 hlt2;
        have hx6 : za w2 w.heap.size 222 #[.pointer (some ⟨gx, 0, none⟩), .slice Ad b cd] := (hx5.alloc _).kept (hgr2.block w.heap.size (by simp; omega) (fun e => hne e.symm));
        have e0 : w2.cell? ⟨w.heap.size, 1, none⟩ = some (.slice Ad b cd) := hx6.cell 1;
        have g0 := hx6.frozen 1))
     all_goals
      go_wp2
      go_roundw
      case rel =>
       refine ⟨b + 1, some ⟨g2, 0, none⟩, c2, 512 * (b + 1), rfl, by omega, ?_, ?_, ?_, ?_, ?_⟩
       ·rw [← HNN.out]; go_num
       ·have := HP.out; go_num
       ·exact hx6.put 1 _
       ·rw [HE.out]
        exact zac hown2 ((Only.refl (fun i => i = w.heap.size) _).setCell (.inl rfl) _) (fun j hj hj2 => hx6.ne_own hown2 (by decide) (by rw [hj, hj2]))
       ·exact (((hB.trans (hB2.mono hsz)).alloc (by omega) (.cells #[.int .u64 (cnt bs p : Nat), .int .u64 (packed bs b 7 : Nat)] 224)).drew.grown hgr2 (by simp; omega) (fun j hj => (hown.lt j hj).1)).setCell (Nat.le_refl _) _
      case measure => simp [intOf]; have := HP.out; omega
open Go.RowKit L
theorem zkg (bs : List Bool) (b q : Nat) (h : q < 7) : zay (packed bs b 7) (9 * (q : Int)) 9 = packed bs b 7 / 2 ^ (9 * q) % 512 := by
 unfold zay
 rw [if_neg (by omega), if_neg (by omega), show z8 9 = 9 from by decide, show (9 * (q : Int)).toNat = 9 * q from by omega]
theorem zlz (g gx : Nat) (A : Option Addr) (c : Nat) (bs : List Bool) (Ad : Option Addr) (cd : Nat) (i : Int) (w : World) (hd : zck w g gx A c bs Ad cd) :
  Calls Tryz.prog 174 #[.pointer (some ⟨g, 0, none⟩), .int .i64 i] w fun e w' => e = .returned (.int .i64 (cnt bs (held bs.length i) : Nat)) ∧ Below w.heap.size w w' := by
 have hr := hd.row
 have hsm := hr.small
 have hcl := hr.cells.2
 have hpl := zia bs.length i
 have HPI := hid (show min (max i 0) ((bs.length : Nat) : Int) = ((held bs.length i : Nat) : Int) by unfold held; omega)
 generalize held bs.length i = p at *
 have c0 : w.cell? ⟨g, 0, none⟩ = some (.pointer (some ⟨gx, 0, none⟩)) := hd.blk.cell 0
 have c1 : w.cell? ⟨g, 1, none⟩ = some (.slice Ad (bs.length / 512 + 1) cd) := hd.blk.cell 1
 have hg := hd.blk.lt
 obtain ⟨ab, ao, rfl, hab, hcs⟩ := hd.lst.lit (by rw [u64s, List.length_map, zfs]; omega)
 obtain ⟨b, hb⟩ : ∃ b, b = p / 512 := ⟨_, rfl⟩
 obtain ⟨wi, hwi⟩ : ∃ wi, wi = p / 64 := ⟨_, rfl⟩
 obtain ⟨k, hk⟩ : ∃ k, k = wi % 8 := ⟨_, rfl⟩
 obtain ⟨r, hr0⟩ : ∃ r, r = p % 64 := ⟨_, rfl⟩
 have E1 : (p : Int) / 512 = (b : Int) := by omega
 have E2 : (p : Int) / 64 = (wi : Int) := by omega
 have E3 : (wi : Int) % 8 = (k : Int) := by omega
 have E4 : (p : Int) % 64 = (r : Int) := by omega
 obtain ⟨nb, hnb⟩ : ∃ nb, nb = bs.length / 512 + 1 := ⟨_, rfl⟩
 have hbl : b < nb := by omega
 have hk8 : k < 8 := by omega
 have hr64 : r < 64 := by omega
 have hcp := zy2 bs p
 rw [← hb, ← hwi, ← hk, ← hr0] at hcp
 have HCP := hid hcp
 clear hcp
 obtain ⟨g0, g1⟩ := zuu bs nb b hbl
 rw [← hnb] at c1 hcs
 have d0 : w.cell? ⟨ab, ao + b * 2, none⟩ = some (.int .u64 (cnt bs (512 * b) : Nat)) := by
  rw [Nat.mul_comm]; exact hcs (2 * b) _ (by rw [u64s, List.getElem?_map, g0]; rfl)
 have d1 : w.cell? ⟨ab, ao + b * 2 + 1, none⟩ = some (.int .u64 (packed bs b 7 : Nat)) := by
  rw [Nat.mul_comm]; exact hcs (2 * b + 1) _ (by rw [u64s, List.getElem?_map, g1]; rfl)
 have hbi : (b : Int) < (nb : Int) := by omega
 have hwl := za3 bs wi
 have HWI := hid (show zd1 bs (wi : Int) = zk bs wi by unfold zd1; rw [if_neg (by omega)]; rfl)
 have HCR := hid (show z8 (r : Int) = r by unfold z8; omega)
 have hpk := zh0 bs b 7 (by omega)
 have hc512 := zld bs (512 * b)
 have hcb := zld bs p
 have hp4 : p ≤ 4294967296 := by omega
 clear hb hwi hk hr0 hnb g0 g1 hcs
 have HD := hid hd
 clear hd
 go_enter Tryz.func174, Tryz.ntmps174
 go_wp2_with fail
 refine (zar gx _ _ hcl).mono ?_
 rintro e w' ⟨rfl, rfl⟩
 have hpi := HPI.out
 have hB1 : Below w.heap.size w (w.alloc (.cells #[.int .u64 (cnt bs (512 * b) : Nat), .int .u64 (packed bs b 7 : Nat)] 224)) := (Below.refl _ _).alloc (Nat.le_refl _) _
 rcases Nat.eq_zero_or_pos k with h0 | h0
 ·subst h0
  rw [if_pos rfl, Nat.add_zero] at HCP
  go_wp2_with fail
  refine (zdl gx A c bs _ _ (hr.below hB1)).mono ?_
  rw [HWI.out]
  rintro e w' ⟨rfl, rfl⟩
  go_wp2_with fail
  refine (zft _ _ _ hwl).mono ?_
  rw [HCR.out, ]
  rintro e w' ⟨rfl, rfl⟩
  have hsum := HCP.out
  go_wp2
  go_ret
  exact ⟨by rw [hsum]; go_num, hB1⟩
 ·obtain ⟨q, rfl⟩ : ∃ q, k = q + 1 := ⟨k - 1, by omega⟩
  rw [if_neg (by omega), show q + 1 - 1 = q from by omega, ← zkg bs b q (by omega)] at HCP
  have hf : zay (packed bs b 7) (9 * (q : Int)) 9 < 512 := by rw [zkg bs b q (by omega)]; exact Nat.mod_lt _ (by omega)
  go_wp2_with fail
  refine (zeb _ _ _ _ (by omega)).mono ?_
  rintro e w' ⟨rfl, m, rfl⟩
  have hB2 := below_drewN hB1 m
  generalize zay (packed bs b 7) (9 * (q : Int)) 9 = f at *
  go_wp2_with fail
  refine (zdl gx A c bs _ _ (hr.below hB2)).mono ?_
  rw [HWI.out]
  rintro e w' ⟨rfl, rfl⟩
  go_wp2_with fail
  refine (zft _ _ _ hwl).mono ?_
  rw [HCR.out]
  rintro e w' ⟨rfl, rfl⟩
  have hsum := HCP.out
  go_wp2
  go_ret
  exact ⟨by rw [hsum]; go_num, hB2⟩
theorem zsp (g gx : Nat) (A : Option Addr) (c : Nat) (bs : List Bool) (Ad : Option Addr) (cd : Nat) (i : Int) (w : World) (hd : zck w g gx A c bs Ad cd) :
  Calls Tryz.prog 207 #[.pointer (some ⟨g, 0, none⟩), .int .i64 i] w fun e w' => e = .returned (.int .i64 (held bs.length i - cnt bs (held bs.length i) : Nat)) ∧ Below w.heap.size w w' := by
 have hr := hd.row
 have hsm := hr.small
 have hcl := hr.cells.2
 have hpl := zia bs.length i
 have HPI := hid (show min (max i 0) ((bs.length : Nat) : Int) = ((held bs.length i : Nat) : Int) by unfold held; omega)
 generalize held bs.length i = p at *
 have c0 : w.cell? ⟨g, 0, none⟩ = some (.pointer (some ⟨gx, 0, none⟩)) := hd.blk.cell 0
 have hcp := zj7 bs p
 have HH := hid (zmh bs.length p hpl)
 go_enter Tryz.func207, Tryz.ntmps207
 go_wp2_with fail
 refine (zar gx _ _ hcl).mono ?_
 rintro e w' ⟨rfl, rfl⟩
 have hpi := HPI.out
 go_wp2_with fail
 refine (zlz g gx A c bs Ad cd _ _ hd).mono ?_
 rw [HH.out]
 rintro e w' ⟨rfl, hB⟩
 go_wp2
 go_ret
 exact ⟨by go_num, hB⟩
theorem zsq (g gx : Nat) (A : Option Addr) (c : Nat) (bs : List Bool) (Ad : Option Addr) (cd : Nat) (w : World) (hd : zck w g gx A c bs Ad cd) :
  Calls Tryz.prog 208 #[.pointer (some ⟨g, 0, none⟩)] w fun e w' => e = .returned (.int .i64 (128 * (bs.length / 512 + 1) : Nat)) ∧ w = w' := by
 have hsm := hd.row.small
 have c1 : w.cell? ⟨g, 1, none⟩ = some (.slice Ad (bs.length / 512 + 1) cd) := hd.blk.cell 1
 have hnb : bs.length / 512 + 1 ≤ 8388609 := by omega
 generalize bs.length / 512 + 1 = nb at *
 go_enter Tryz.func208, Tryz.ntmps208
 go_wp2
 go_ret
 go_num
theorem zfz (g gx : Nat) (A : Option Addr) (c : Nat) (bs : List Bool) (Ad : Option Addr) (cd : Nat) (w : World) (hd : zck w g gx A c bs Ad cd) :
  Calls Tryz.prog 176 #[.pointer (some ⟨g, 0, none⟩)] w fun e w' => e = .returned (.pointer (some ⟨gx, 0, none⟩)) ∧ w = w' := by
 have c0 : w.cell? ⟨g, 0, none⟩ = some (.pointer (some ⟨gx, 0, none⟩)) := hd.blk.cell 0
 go_enter Tryz.func176, Tryz.ntmps176
 go_wp2
 go_ret
 trivial
theorem zzo (n : Nat) (i : Int) (k : Nat) (h1 : k < n) (h2 : (k : Int) < i) : k + 1 ≤ held n i := by unfold held; omega
theorem zo1 (A : Option Addr) (c : Nat) (bs : List Bool) (i : Int) (w : World) (hl : Lst w A (bools bs)) (hs : bs.length ≤ 4294967296) :
  Calls Tryz.prog 54 #[.slice A bs.length c, .int .i64 i] w fun e w' => e = .returned (.int .i64 (cnt bs (held bs.length i) : Nat)) ∧ w = w' := by
 go_enter Tryz.func54, Tryz.ntmps54
 go_wp2_with fail
 go_loop [5, 6] (fun n k => ∃ j : Nat, j ≤ held bs.length i ∧ n = .int .i64 (cnt bs j : Nat) ∧ k = .int .i64 j) (fun _ k => bs.length - (intOf k).toNat)
 case atStart => exact ⟨0, by omega, rfl, rfl⟩
 case round =>
  obtain ⟨j, hj, rfl, rfl⟩ := hrel
  have hcj := zld bs j
  rcases Nat.lt_or_ge j bs.length with hlt | hge
  ·have hji : (j : Int) < (bs.length : Int) := by omega
   rcases Int.lt_or_le (j : Int) i with h2 | h2
   ·obtain ⟨ad, rfl, hc⟩ := hl j (.bool (zb bs j)) (zkb bs hlt)
    have hst := zzo bs.length i j hlt h2
    have H : cnt bs (j + 1) = cnt bs j + (zb bs j).toNat := rfl
    have HH := hid H
    clear H
    rcases hb : zb bs j with _ | _
    ·rw [hb] at hc
     have HB := hid hb
     clear hb
     go_wp2
     go_round
     case rel => exact ⟨j + 1, hst, by rw [HH.out, HB.out]; simp, by go_num⟩
     case measure => simp [intOf]; omega
    ·rw [hb] at hc
     have HB := hid hb
     clear hb
     go_wp2
     go_round
     case rel => exact ⟨j + 1, hst, by rw [HH.out, HB.out]; go_num, by go_num⟩
     case measure => simp [intOf]; omega
   ·have he : held bs.length i = j := by unfold held at *; omega
    go_wp2
    go_ret
    exact ⟨rfl, rfl⟩
  ·have he : held bs.length i = j := by have := zia bs.length i; omega
   have hji : (bs.length : Int) ≤ (j : Int) := by omega
   go_wp2
   go_ret
   exact ⟨rfl, rfl⟩
theorem Tryz.infoInt : (Tryz.prog.info? 3).map (fun i => (i.zero, i.size, i.bytes)) = some (some (.int .i64 0), 1, 8) := by kernel_rfl
def zz (l : List Nat) : List Value := l.map fun x => Value.int .i64 (x : Nat)
theorem zfk (a b : List Nat) : zz (a ++ b) = zz a ++ zz b := by simp [zz]
theorem zc6 (l : List Nat) : (zz l).length = l.length := by simp [zz]
def zcl (t : Bool) (d v n x y : Value) : Array Value := if t then #[d, v, n, x, y] else #[d, x, y, v, n]
def zcz (t : Bool) : Nat := if t then 1 else 3
theorem zgu (t : Bool) (d v n x y : Value) : (zcl t d v n x y)[zcz t]? = some v ∧ (zcl t d v n x y)[zcz t + 1]? = some n := by cases t <;> exact ⟨rfl, rfl⟩
theorem zl0 (t : Bool) (d v n x y u : Value) : (zcl t d v n x y).setIfInBounds (zcz t) u = zcl t d u n x y ∧ (zcl t d v n x y).setIfInBounds (zcz t + 1) u = zcl t d v u x y := by cases t <;> exact ⟨rfl, rfl⟩
def zmp (t : Bool) (w w' : World) (base g : Nat) (d v x y : Value) (l' : List Nat) (n' : Nat) : Prop :=
 ∃ A' c', za w' g 199 (zcl t d (.slice A' l'.length c') (.int .i64 (n' : Nat)) x y) ∧ w'.ownsRow base 3 1 (.slice A' l'.length c') l'.length (zz l') ∧ Only (fun i => i = g ∨ v.ownBlock = some i) w w' ∧
   ((Value.slice A' l'.length c').ownBlock = v.ownBlock ∨ ∀ i, (Value.slice A' l'.length c').ownBlock = some i → w.heap.size ≤ i)
theorem znq {t : Bool} {w w1 : World} {base g : Nat} {d v x y : Value} {n n' : Nat} {l' : List Nat} {A' : Option Addr} {c' : Nat} (ho : Only (fun i => i = g ∨ v.ownBlock = some i) w w1)
  (hb : za w1 g 199 (zcl t d (.slice A' l'.length c') (.int .i64 (n : Nat)) x y)) (hown : w1.ownsRow base 3 1 (.slice A' l'.length c') l'.length (zz l'))
  (hat : (Value.slice A' l'.length c').ownBlock = v.ownBlock ∨ ∀ i, (Value.slice A' l'.length c').ownBlock = some i → w.heap.size ≤ i) {m : Int} (hm : m = (n' : Nat)) :
  zmp t w (w1.setCell ⟨g, zcz t + 1, none⟩ (.int .i64 m)) base g d v x y l' n' := by
 subst hm
 refine ⟨A', c', ?_, zac hown (Only.setCell (S := fun i => i = g) (Only.refl _ _) (Or.inl rfl) _) (fun k hk h => ?_), ho.setCell (Or.inl (Or.inl rfl)) _, hat⟩
 ·have := hb.put (zcz t + 1) (.int .i64 (n' : Nat))
  rw [(zl0 t d _ _ x y _).2] at this
  exact this
 ·exact hb.ne_own hown (by decide) (h ▸ hk)
theorem zuz {t : Bool} {w w2 : World} {base g : Nat} {d v x y : Value} {n n' : Nat} {l' : List Nat} {A' : Option Addr} {c' : Nat} (ho : Only (fun i => i = g ∨ v.ownBlock = some i) w w2)
  (hb : za w2 g 199 (zcl t d v (.int .i64 (n : Nat)) x y)) (hown : w2.ownsRow base 3 1 (.slice A' l'.length c') l'.length (zz l'))
  (hat : (Value.slice A' l'.length c').ownBlock = v.ownBlock ∨ ∀ i, (Value.slice A' l'.length c').ownBlock = some i → w.heap.size ≤ i) {m : Int} (hm : m = (n' : Nat)) :
  zmp t w ((w2.setCell ⟨g, zcz t, none⟩ (.slice A' l'.length c')).setCell ⟨g, zcz t + 1, none⟩ (.int .i64 m)) base g d v x y l' n' := by
 have hb2 := hb.put (zcz t) (.slice A' l'.length c')
 rw [(zl0 t d _ _ x y _).1] at hb2
 refine znq (ho.setCell (Or.inl (Or.inl rfl)) _) hb2 (zac hown (Only.setCell (S := fun i => i = g) (Only.refl _ _) (Or.inl rfl) _) (fun k hk h => ?_)) hat hm
 exact hb.ne_own hown (by decide) (h ▸ hk)
theorem zsr (t : Bool) (x at_ n : Nat) (base g : Nat) (d xx yy : Value) (A : Option Addr) (c : Nat) (l : List Nat) (w : World) (hx : x < 18446744073709551616) (hat : at_ ≤ 4294967296) (hn : n ≤ 4294967296) (hl : l.length ≤ 67108864)
  (hb : za w g 199 (zcl t d (.slice A l.length c) (.int .i64 (n : Nat)) xx yy)) (hown : w.ownsRow base 3 1 (.slice A l.length c) l.length (zz l)) (hbase : base ≤ w.heap.size) :
  Calls Tryz.prog 137 #[.pointer (some ⟨g, zcz t, none⟩), .int .u64 (x : Int), .int .i64 (at_ : Nat)] w fun e w' => e = .returned (.tuple #[]) ∧
   zmp t w w' base g d (.slice A l.length c) xx yy (if (n + 255) / 256 * 256 < n + zi x 64 then l ++ [at_ / 512] else l) (n + zi x 64) := by
 obtain ⟨i0, hi0, iz0, iz1, iz2⟩ := info_parts Tryz.infoInt
 have ho64 := zbu x 64
 have HO := hid (fun W => by have := zft x 64 W hx; rw [show z8 64 = 64 from by decide] at this; exact this)
 have hc1 := (hb.cell (zcz t)).trans (zgu t _ _ _ _ _).1
 have hc2 := (hb.cell (zcz t + 1)).trans (zgu t _ _ _ _ _).2
 have hf1 := hb.frozen (zcz t)
 have hf2 := hb.frozen (zcz t + 1)
 have hg := hb.lt
 generalize zi x 64 = k at *
 obtain ⟨q, hq⟩ : ∃ q, q = (n + 255) / 256 := ⟨_, rfl⟩
 have e1 : ((n : Int) + 256 - 1) / 256 = (q : Int) := by omega
 rw [← hq]
 by_cases hc : q * 256 < n + k
 ·rw [if_pos hc]
  have hk : 0 < k := by omega
  have hki : (0 : Int) < (k : Int) := by omega
  have hci : decide ((q : Int) * 256 < (n : Int) + (k : Int)) = true := by rw [decide_eq_true_eq]; omega
  obtain ⟨z, hz⟩ : ∃ z, z = at_ / 512 := ⟨_, rfl⟩
  have e2 : (at_ : Int) / 512 = (z : Int) := by omega
  rw [← hz]
  have HQ := hid hq
  have HZ := hid hz
  have HB := hid hb
  have HOWN := hid hown
  have HG : (Value.slice A l.length c).ownBlock ≠ some g := hb.ne_own hown (by decide)
  have HG := hid HG
  clear hq hb hc hz hown
  obtain ⟨o, ho⟩ : ∃ o, o = zcz t := ⟨_, rfl⟩
  have HOFF := hid ho
  rw [← ho] at hc1 hc2 hf1 hf2 ⊢
  clear ho
  go_enter Tryz.func137, Tryz.ntmps137
  go_wp2_with fail
  refine (HO.out _).mono ?_
  rintro e w' ⟨rfl, rfl⟩
  go_wp2_with fail
  go_quiet (fail)
  go_wp2_with (at_builtin
               refine zaa _ rfl (.tmp 32) (.tmp 35) _ rfl base 3 i0 _ 8 Tryz.underlying52 hi0 iz0 iz1 iz2 rfl (.slice A l.length c) l.length (zz l) rfl ?hown (some ⟨w.heap.size, 0, none⟩) 1 1 [.int .i64 (z : Nat)] rfl ?hls rfl ?h1 ?h63 ?hby ?hbs _ rfl ?_
               go_must (case hown => exact HOWN.out.alloc _)
               go_must (case hls => exact zc3 _ _ _ _ (by simp))
               go_must (case h1 => simp [Value.oneCell'])
               go_must (case h63 => simp only [maxLen]; omega)
               go_must (case hby => omega)
               go_must (case hbs => simp; omega)
               intro A2 c2 w2 hown2 hgr2 hat2
               have hO2 : Only (fun i => i = g ∨ (Value.slice A l.length c).ownBlock = some i) w w2 := by
                refine (((Only.refl _ w).drewN _).alloc _).trans (Only.of_grown hgr2) (fun i _ hi => Or.inr hi.symm)
               have hb2 : za w2 g 199 (zcl t d (.slice A l.length c) (.int .i64 (n : Nat)) xx yy) := by
                refine (HB.out.alloc _).kept (hgr2.block g (by simp; omega) (fun h => HG.out h.symm))
               have hcc1 : w2.cell? ⟨g, o, none⟩ = some (.slice A l.length c) := by rw [HOFF.out]; exact (hb2.cell (zcz t)).trans (zgu t _ _ _ _ _).1
               have hcc2 : w2.cell? ⟨g, o + 1, none⟩ = some (.int .i64 (n : Nat)) := by rw [HOFF.out]; exact (hb2.cell (zcz t + 1)).trans (zgu t _ _ _ _ _).2
               have hff1 := hb2.frozen o
               have hff2 := hb2.frozen (o + 1)
               have hg2 := hb2.lt)
  go_end0
  refine ⟨rfl, ?_⟩
  have hown3 : w2.ownsRow base 3 1 (.slice A2 (l ++ [z]).length c2) (l ++ [z]).length (zz (l ++ [z])) := by
   rw [zfk, List.length_append]; exact hown2
  have hat3 : (Value.slice A2 (l ++ [z]).length c2).ownBlock = (Value.slice A l.length c).ownBlock ∨ ∀ i, (Value.slice A2 (l ++ [z]).length c2).ownBlock = some i → w.heap.size ≤ i := by
   rw [show (l ++ [z]).length = l.length + 1 from by simp]
   rcases hat2 with h | h
   ·exact Or.inl h
   ·right; intro i hi
    rw [h] at hi
    simp at hi; omega
  have := zuz (t := t) (n := n) (n' := n + k) (m := (n : Int) + (k : Int)) hO2 hb2 hown3 hat3 (by omega)
  rw [← HOFF.out, List.length_append] at this
  exact this
 ·rw [if_neg hc]
  have hci : decide ((q : Int) * 256 < (n : Int) + (k : Int)) = false := by rw [decide_eq_false_iff_not]; omega
  have HQ := hid hq
  have HC := hid (fun (m : Int) nq hm => znq (t := t) (w1 := w.drewN nq) (m := m) (n' := n + k) ((Only.refl _ w).drewN nq) hb hown (Or.inl rfl) hm)
  clear hq hb hc
  obtain ⟨o, ho⟩ : ∃ o, o = zcz t := ⟨_, rfl⟩
  rw [← ho] at hc1 hc2 hf1 hf2 HC ⊢
  clear ho
  by_cases hk : 0 < k
  ·have hki : (0 : Int) < (k : Int) := by omega
   go_enter Tryz.func137, Tryz.ntmps137
   go_wp2_with fail
   refine (HO.out _).mono ?_
   rintro e w' ⟨rfl, rfl⟩
   go_wp2_with fail
   go_quiet (fail)
   go_wp2
   go_end0
   exact ⟨rfl, HC.out _ _ (by omega)⟩
  ·obtain rfl : k = 0 := by omega
   clear hk
   go_enter Tryz.func137, Tryz.ntmps137
   go_wp2_with fail
   refine (HO.out _).mono ?_
   rintro e w' ⟨rfl, rfl⟩
   go_wp2_with fail
   go_quiet (fail)
   go_wp2
   go_end0
   exact ⟨rfl, HC.out _ _ (by omega)⟩
def zab (w : World) (g gd gx : Nat) (A : Option Addr) (c : Nat) (bs : List Bool) (Ad : Option Addr) (cd : Nat) (A1 : Option Addr) (c1 : Nat) (l1 : List Nat) (A0 : Option Addr) (c0 : Nat) (l0 : List Nat) : Prop :=
 za w g 199 #[.pointer (some ⟨gd, 0, none⟩), .slice A1 l1.length c1, .int .i64 (kc true bs bs.length : Nat), .slice A0 l0.length c0, .int .i64 (kc false bs bs.length : Nat)] ∧
  Lst w A1 (zz l1) ∧ Lst w A0 (zz l0) ∧ zck w gd gx A c bs Ad cd ∧ Half true bs bs.length l1 ∧ Half false bs bs.length l0
section
variable {w : World} {g gd gx : Nat} {A : Option Addr} {c : Nat} {bs : List Bool} {Ad : Option Addr} {cd : Nat} {A1 : Option Addr} {c1 : Nat} {l1 : List Nat} {A0 : Option Addr} {c0 : Nat} {l0 : List Nat}
theorem zab.blk (h : zab w g gd gx A c bs Ad cd A1 c1 l1 A0 c0 l0) : za w g 199 #[.pointer (some ⟨gd, 0, none⟩), .slice A1 l1.length c1, .int .i64 (kc true bs bs.length : Nat), .slice A0 l0.length c0, .int .i64 (kc false bs bs.length : Nat)] := h.1
theorem zab.one (h : zab w g gd gx A c bs Ad cd A1 c1 l1 A0 c0 l0) : Lst w A1 (zz l1) := h.2.1
theorem zab.zero (h : zab w g gd gx A c bs Ad cd A1 c1 l1 A0 c0 l0) : Lst w A0 (zz l0) := h.2.2.1
theorem zab.dir (h : zab w g gd gx A c bs Ad cd A1 c1 l1 A0 c0 l0) : zck w gd gx A c bs Ad cd := h.2.2.2.1
theorem zab.half1 (h : zab w g gd gx A c bs Ad cd A1 c1 l1 A0 c0 l0) : Half true bs bs.length l1 := h.2.2.2.2.1
theorem zab.half0 (h : zab w g gd gx A c bs Ad cd A1 c1 l1 A0 c0 l0) : Half false bs bs.length l0 := h.2.2.2.2.2
theorem zab.below {w' : World} (h : zab w g gd gx A c bs Ad cd A1 c1 l1 A0 c0 l0) (hb : Below w.heap.size w w') : zab w' g gd gx A c bs Ad cd A1 c1 l1 A0 c0 l0 :=
 ⟨h.1.below hb, h.2.1.below hb, h.2.2.1.below hb, h.2.2.2.1.below hb, h.2.2.2.2⟩
end
theorem zss (v : Nat) (hv : v < 18446744073709551616) : bits BinOp.xor IntKind.u64 (if IntKind.u64.signed = true then -1 else IntKind.u64.max) (v : Int) = ((comp v : Nat) : Int) := by
 have e : (if IntKind.u64.signed = true then -1 else IntKind.u64.max : Int) = 18446744073709551615 := rfl
 rw [e]
 show IntKind.u64.wrap ((BitVec.ofInt 64 (18446744073709551615 : Int) ^^^ BitVec.ofInt 64 (v : Int)).toNat : Int) = _
 rw [show BitVec.ofInt 64 (18446744073709551615 : Int) = BitVec.allOnes 64 from by decide, BitVec.allOnes_xor, BitVec.toNat_not, BitVec.ofInt_natCast, BitVec.toNat_ofNat, IntKind.wrap_u64]
 unfold comp
 rw [Nat.mod_eq_of_lt (by omega)]
 omega
theorem zjj (gx : Nat) (A : Option Addr) (c : Nat) (bs : List Bool) (w : World) (hr : zo w gx A c bs) :
  Calls Tryz.prog 89 #[.pointer (some ⟨gx, 0, none⟩)] w fun e w' => ∃ g gd Ad cd A1 c1 l1 A0 c0 l0, e = .returned (.pointer (some ⟨g, 0, none⟩)) ∧ zab w' g gd gx A c bs Ad cd A1 c1 l1 A0 c0 l0 ∧ Below w.heap.size w w' ∧ w.heap.size ≤ g := by
 have hsm := hr.small
 have HRN := hid (fun W hW => zuy gx A c bs W hW)
 go_enter Tryz.func89, Tryz.ntmps89
 go_wp2_with fail
 refine (HRN.out _ hr).mono ?_
 rintro e w1 ⟨Ad, cd, rfl, hd, hB1⟩
 have hz1 := hB1.size
 have hc0 : za (w1.alloc (.cells #[.pointer (some ⟨w.heap.size, 0, none⟩), .slice none 0 0, .int .i64 0, .slice none 0 0, .int .i64 0] 199)) w1.heap.size 199 (zcl true (.pointer (some ⟨w.heap.size, 0, none⟩)) (.slice none 0 0) (.int .i64 0) (.slice none 0 0) (.int .i64 0)) := za.new _ _ _
 have hB2 : Below w.heap.size w (w1.alloc (.cells #[.pointer (some ⟨w.heap.size, 0, none⟩), .slice none 0 0, .int .i64 0, .slice none 0 0, .int .i64 0] 199)) := hB1.alloc hz1 _
 have hB3 : Below w1.heap.size w1 (w1.alloc (.cells #[.pointer (some ⟨w.heap.size, 0, none⟩), .slice none 0 0, .int .i64 0, .slice none 0 0, .int .i64 0] 199)) := (Below.refl _ _).alloc (Nat.le_refl _) _
 go_wp2_with fail
 go_loopw [4] (fun i wr => ∃ (q p : Nat) (A1 : Option Addr) (c1 : Nat) (l1 : List Nat) (A0 : Option Addr) (c0 : Nat) (l0 : List Nat), p = 64 * q ∧ p ≤ bs.length + 63 ∧ i = .int .i64 (p : Nat) ∧
   za wr w1.heap.size 199 (zcl true (.pointer (some ⟨w.heap.size, 0, none⟩)) (.slice A1 l1.length c1) (.int .i64 (kc true bs p : Nat)) (.slice A0 l0.length c0) (.int .i64 (kc false bs p : Nat))) ∧
   wr.ownsRow w1.heap.size 3 1 (.slice A1 l1.length c1) l1.length (zz l1) ∧ wr.ownsRow w1.heap.size 3 1 (.slice A0 l0.length c0) l0.length (zz l0) ∧
   (∀ i, (Value.slice A1 l1.length c1).ownBlock = some i → (Value.slice A0 l0.length c0).ownBlock ≠ some i) ∧ Half true bs p l1 ∧ Half false bs p l0 ∧ Below w1.heap.size w1 wr) (fun i _ => bs.length + 64 - (intOf i).toNat)
 case atStart => exact ⟨0, 0, none, 0, [], none, 0, [], by omega, by omega, rfl, hc0, World.ownsRow_nil _ _ _ _, World.ownsRow_nil _ _ _ _, (fun i h => by cases h), zsd _ _, zsd _ _, hB3⟩
 case round =>
  obtain ⟨q, p, A1, c1, l1, A0, c0, l0, hp, hpl, rfl, hb, ho1, ho0, hne, hh1, hh0, hB⟩ := hrel
  have hsz := hB.size
  have hrr := (hr.below hB1).below hB
  have hcl := hrr.cells.2
  clear hc0 hB3
  rcases Nat.lt_or_ge p bs.length with hlt | hge
  ·have hpi : (p : Int) < (bs.length : Int) := by omega
   have hk1 := zhl true bs p
   have hk0 := zhl false bs p
   have e1 : (p : Int) / 64 = (q : Int) := by omega
   have hwl := za3 bs q
   have HW := hid (fun W hW => by have := zdl gx A c bs (q : Nat) W hW; rw [zd8] at this; exact this)
   have HK1 := hid (show kc true bs (p + 64) = kc true bs p + zi (zk bs q) 64 by rw [hp]; exact zpy (zpz bs q) 64 (Nat.le_refl _))
   have HFv := zpv (comp (zk bs q)) 0 ((bs.length : Int) - (p : Int)) (zoq _)
   have HK0 := hid (show kc false bs (p + 64) = kc false bs p + zi (zay (comp (zk bs q)) 0 ((bs.length : Int) - (p : Int))) 64 by
    have := zpy (zxe bs q (by omega)) 64 (Nat.le_refl _)
    rw [← hp] at this; exact this)
   have HN1 := hid (zsr true (zk bs q) p (kc true bs p) w1.heap.size w1.heap.size (.pointer (some ⟨w.heap.size, 0, none⟩)) (.slice A0 l0.length c0) (.int .i64 (kc false bs p : Nat)) A1 c1 l1 wr hwl (by omega) (by omega) (by have := hh1.1; omega) hb ho1 hsz)
   have HFI := hid (fun W => zeb (comp (zk bs q)) 0 ((bs.length : Int) - (p : Int)) W (zoq _))
   have hxor := zss (zk bs q) hwl
   have HP := hid hp
   have HH1 := hid (zp0 hh1 hp hlt HK1.out)
   have HH0 := hid (zp0 hh0 hp hlt HK0.out)
   clear hp
   generalize zk bs q = v at *
   go_wp2_with fail
   refine (zar gx _ _ hcl).mono ?_
   rintro e w' ⟨rfl, rfl⟩
   go_wp2_with fail
   refine (HW.out _ hrr).mono ?_
   rintro e w' ⟨rfl, rfl⟩
   go_wp2_with fail
   refine HN1.out.mono ?_
   rintro e w2 ⟨rfl, A1', c1', hb2, ho2, hO2, hat2⟩
   generalize (if (kc true bs p + 255) / 256 * 256 < kc true bs p + zi v 64 then l1 ++ [p / 512] else l1) = l1' at *
   rw [← HK1.out] at hb2
   have hz2 := hO2.size
   have g1 : ∀ k, (Value.slice A1 l1.length c1).ownBlock = some k → w1.heap.size ≤ k ∧ k < wr.heap.size := fun k hk => ho1.lt k hk
   have g0 : ∀ k, (Value.slice A0 l0.length c0).ownBlock = some k → w1.heap.size ≤ k ∧ k < wr.heap.size := fun k hk => ho0.lt k hk
   have n0 : (Value.slice A0 l0.length c0).ownBlock ≠ some w1.heap.size := hb.ne_own ho0 (by decide)
   have n1 := hb2.ne_own ho2 (by decide)
   have ho0' : w2.ownsRow w1.heap.size 3 1 (.slice A0 l0.length c0) l0.length (zz l0) := zac ho0 hO2 (fun k hk hS => by
    rcases hS with h | h
    ·exact n0 (by rw [hk, h])
    ·exact hne k h hk)
   have hB' : Below w1.heap.size w1 w2 := hB.trans (hO2.below (fun i hi => by
    rcases hi with h | h
    ·omega
    ·exact (g1 i h).1) hsz)
   have hrr2 := (hr.below hB1).below hB'
   have hcl2 := hrr2.cells.2
   have hsz2 := hB'.size
   have r1 : IntKind.i64.wrap ((bs.length : Int) - (p : Int)) = (bs.length : Int) - (p : Int) := by rw [IntKind.wrap_i64]; omega
   clear HN1
   go_wp2_with fail
   go_region_law (first
    | (refine zca (o := ⟨some 32, _, _, _, _, _⟩) rfl 94 #[.pointer (some ⟨gx, 0, none⟩)] (by go_simp) ?_; refine (zar gx _ _ (by exact hcl2)).mono ?_; rintro e w' ⟨rfl, rfl⟩; refine ⟨_, rfl, ?_⟩)
    | (refine zca (o := ⟨some 35, _, _, _, _, _⟩) rfl 131 #[.int .u64 (comp v : Nat), .int .i64 0, .int .i64 ((bs.length : Int) - (p : Int))] (by go_simp) ?_; refine (HFI.out _).mono ?_; rintro e w' ⟨rfl, m, rfl⟩; refine ⟨_, rfl, ?_⟩)
    | (refine zca (o := ⟨some 37, _, _, _, _, _⟩) rfl 137 #[.pointer (some ⟨w1.heap.size, 3, none⟩), .int .u64 (zay (comp v) 0 ((bs.length : Int) - (p : Int)) : Nat), .int .i64 (p : Nat)] (by go_simp) ?_
       refine (zsr false _ p (kc false bs p) w1.heap.size w1.heap.size (.pointer (some ⟨w.heap.size, 0, none⟩)) _ _ A0 c0 l0 _ HFv (by omega) (by omega) (by have := hh0.1; omega) (by exact hb2) (by exact ho0') (by exact hsz2)).mono ?_
       rintro e w3 ⟨rfl, A0', c0', hb3, ho3, hO3, hat3⟩
       refine ⟨_, rfl, ?_⟩))
   all_goals
    generalize (if (kc false bs p + 255) / 256 * 256 < kc false bs p + zi (zay (comp v) 0 ((bs.length : Int) - (p : Int))) 64 then l0 ++ [p / 512] else l0) = l0' at *
    have HB3 : za w3 w1.heap.size 199 (zcl true (.pointer (some ⟨w.heap.size, 0, none⟩)) (.slice A1' _ c1') (.int .i64 (kc true bs (p + 64) : Nat)) (.slice A0' _ c0') (.int .i64 (kc false bs p + zi (zay (comp v) 0 ((bs.length : Int) - (p : Int))) 64 : Nat))) := hb3
    rw [← HK0.out] at HB3
    have hO3' : Only (fun i => i = w1.heap.size ∨ (Value.slice A0 l0.length c0).ownBlock = some i) w2 w3 := Only.of_drewN hO3
    have hl1 := ho2.lt
    have q0 : ∀ k, (Value.slice A0 l0.length c0).ownBlock = some k → (Value.slice A1' _ c1').ownBlock ≠ some k := fun k hk h => by
     rcases hat2 with h2 | h2
     ·rw [h2] at h; exact hne k h hk
     ·have := h2 k h; have := (g0 k hk).2; omega
    have ho2' := zac ho2 hO3' (fun k hk hS => by
     rcases hS with h | h
     ·exact n1 (by rw [hk, h])
     ·exact q0 k h hk)
    have hne' : ∀ i, (Value.slice A1' _ c1').ownBlock = some i → (Value.slice A0' _ c0').ownBlock ≠ some i := fun i hi h => by
     rcases hat3 with h3 | h3
     ·rw [h3] at h; exact q0 i h hi
     ·have a1 := h3 i h
      have a2 : i < w2.heap.size := (hl1 i hi).2
      have a3 : w2.heap.size ≤ i := by exact a1
      omega
    have hB3 : Below w1.heap.size w1 w3 := hB'.trans (hO3'.below (fun i hi => by
     rcases hi with h | h
     ·omega
     ·exact (g0 i h).1) hsz2)
    have hp' := HP.out
    go_wp2
    go_roundw
    case rel =>
     refine ⟨q + 1, p + 64, A1', c1', _, A0', c0', _, by omega, by omega, by go_num, HB3, ho2', ho3, hne', ?_, ?_, hB3⟩
     ·exact HH1.out
     ·exact HH0.out
    case measure => simp [intOf]; omega
  ·have hpi : ¬ ((p : Int) < (bs.length : Int)) := by omega
   go_wp2_with fail
   refine (zar gx _ _ hcl).mono ?_
   rintro e w' ⟨rfl, rfl⟩
   go_wp2
   go_ret
   have hk1 := zri true bs p hge
   have hk0 := zri false bs p hge
   rw [hk1, hk0] at hb
   exact ⟨w1.heap.size, w.heap.size, Ad, cd, A1, c1, l1, A0, c0, l0, rfl, ⟨hb, zbw ho1, zbw ho0, hd.below hB, zse hh1 hge, zse hh0 hge⟩, hB1.trans (hB.mono hz1), hz1⟩
open Go.RowKit Go.Shelf L
def ahead (fa : Nat) (gd : Nat) : Value := .func (.func fa) #[.pointer (some ⟨gd, 0, none⟩)] #[]
def Ranks (fa : Nat) (t : Bool) : Prop :=
 (∀ (gd gx : Nat) (A : Option Addr) (c : Nat) (bs : List Bool) (Ad : Option Addr) (cd : Nat) (i : Nat) (w : World), zck w gd gx A c bs Ad cd →
  Calls Tryz.prog fa #[.pointer (some ⟨gd, 0, none⟩), .int .i64 (i : Nat)] w fun e w' => e = .returned (.int .i64 (kc t bs i : Nat)) ∧ Below w.heap.size w w') ∧
 ∀ args W, (callFunc fa args).run Tryz.prog W = .ok (.enter fa args) W
theorem zzp : Ranks 174 true :=
 ⟨fun gd gx A c bs Ad cd i w hd => by have := zlz gd gx A c bs Ad cd (i : Int) w hd; rw [zy9] at this; exact this, enters_of Tryz.func174 (by kernel_rfl) rfl⟩
theorem zxr : Ranks 207 false :=
 ⟨fun gd gx A c bs Ad cd i w hd => by have := zsp gd gx A c bs Ad cd (i : Int) w hd; rw [z5i] at this; exact this, enters_of Tryz.func207 (by kernel_rfl) rfl⟩
theorem zzq (fa : Nat) (t : Bool) (hfa : Ranks fa t) (gd gx : Nat) (A : Option Addr) (c : Nat) (bs : List Bool) (Ad : Option Addr) (cd : Nat) (b7 b10 b6 low k i p : Nat) (w : World) (hd : zck w gd gx A c bs Ad cd)
  (h7 : w.cell? ⟨b7, 0, none⟩ = some (ahead fa gd)) (h10 : w.cell? ⟨b10, 0, none⟩ = some (.int .i64 (low : Nat))) (h6 : w.cell? ⟨b6, 0, none⟩ = some (.int .i64 (k : Nat))) (l7 : b7 < w.heap.size) (l10 : b10 < w.heap.size) (l6 : b6 < w.heap.size)
  (hp : p = low + (i + 1) * 64) (hb : p ≤ 17179869184) :
  Calls Tryz.prog 200 #[.int .i64 (i : Nat), .pointer (some ⟨b7, 0, none⟩), .pointer (some ⟨b10, 0, none⟩), .pointer (some ⟨b6, 0, none⟩)] w fun e w' =>
   e = .returned (.bool (decide (k < kc t bs p))) ∧ Below w.heap.size w w' := by
 have C1 : ∀ W, Below w.heap.size w W → Calls Tryz.prog fa #[.pointer (some ⟨gd, 0, none⟩), .int .i64 (p : Nat)] W fun e w' => e = .returned (.int .i64 (kc t bs p : Nat)) ∧ Below w.heap.size w w' := fun W hW => by
  refine (hfa.1 gd gx A c bs Ad cd p W (hd.below hW)).mono ?_
  rintro e w' ⟨rfl, hB⟩
  exact ⟨rfl, hW.trans (hB.mono hW.size)⟩
 have H1 := hid C1
 have KC := hid (show ∀ W, Below w.heap.size w W → W.cell? ⟨b7, 0, none⟩ = some (ahead fa gd) ∧ W.cell? ⟨b10, 0, none⟩ = some (.int .i64 (low : Nat)) ∧ W.cell? ⟨b6, 0, none⟩ = some (.int .i64 (k : Nat)) from fun W hW =>
  ⟨(hW.cell (p := ⟨b7, 0, none⟩) l7).trans h7, (hW.cell (p := ⟨b10, 0, none⟩) l10).trans h10, (hW.cell (p := ⟨b6, 0, none⟩) l6).trans h6⟩)
 have hB0 := Below.refl w.heap.size w
 have q1 : (low : Int) + ((i : Int) + 1) * 64 = (p : Int) := by omega
 have q2 : (i : Int) + 1 ≤ 17179869184 := by omega
 have q3 : ((i : Int) + 1) * 64 ≤ 17179869184 := by omega
 have q4 : IntKind.i64.wrap ((i : Int) + 1) = (i : Int) + 1 := by rw [IntKind.wrap_i64]; omega
 have q5 : IntKind.i64.wrap (((i : Int) + 1) * 64) = ((i : Int) + 1) * 64 := by rw [IntKind.wrap_i64]; omega
 have q6 : IntKind.i64.wrap (p : Int) = (p : Int) := by rw [IntKind.wrap_i64]; omega
 have HP := hid hp
 have hkc := zhl t bs p
 have hce := hfa.2
 clear C1 hp
 generalize kc t bs p = kk at *
 unfold ahead at *
 go_enter Tryz.func200, Tryz.ntmps200
 go_wp2_with fail
 go_region_held3 (fun w' => Below w.heap.size w w' ∧ w'.cell? ⟨b7, 0, none⟩ = some (.func (.func fa) #[.pointer (some ⟨gd, 0, none⟩)] #[]) ∧ w'.cell? ⟨b10, 0, none⟩ = some (.int .i64 (low : Nat)) ∧ w'.cell? ⟨b6, 0, none⟩ = some (.int .i64 (k : Nat)))
  (first | exact ⟨hB0.drew, h7, h10, h6⟩ | exact ⟨e1, KC.out _ e1⟩ | assumption)
  (first
   | (refine (H1.out _ (by first | assumption | exact And.left (by assumption))).mono ?_; rintro e w5 ⟨rfl, e1⟩))
 all_goals go_wp2
 all_goals go_ret
 all_goals exact ⟨zfb (by first | rfl | (rw [Bool.eq_iff_iff]; simp)), by first | exact e1 | assumption | exact And.left (by assumption)⟩
theorem zxs (fa : Nat) (t : Bool) (hfa : Ranks fa t) (gd gx : Nat) (A : Option Addr) (c : Nat) (bs : List Bool) (Ad : Option Addr) (cd : Nat) (b7 b10 b6 low k n : Nat) (w : World) (hd : zck w gd gx A c bs Ad cd)
  (h7 : w.cell? ⟨b7, 0, none⟩ = some (ahead fa gd)) (h10 : w.cell? ⟨b10, 0, none⟩ = some (.int .i64 (low : Nat))) (h6 : w.cell? ⟨b6, 0, none⟩ = some (.int .i64 (k : Nat))) (l7 : b7 < w.heap.size) (l10 : b10 < w.heap.size) (l6 : b6 < w.heap.size)
  (hlow : low ≤ 4294967296) (hn : n ≤ 67108900) :
  Calls Tryz.prog 199 #[.int .i64 (n : Nat), .func (.func 200) #[] #[.pointer (some ⟨b7, 0, none⟩), .pointer (some ⟨b10, 0, none⟩), .pointer (some ⟨b6, 0, none⟩)]] w fun e w' =>
   ∃ r : Nat, e = .returned (.int .i64 (r : Nat)) ∧ r ≤ n ∧ (r = 0 ∨ kc t bs (low + r * 64) ≤ k) ∧ (r = n ∨ k < kc t bs (low + (r + 1) * 64)) ∧ Below w.heap.size w w' := by
 go_enter Tryz.func199, Tryz.ntmps199
 go_wp2_with fail
 go_loopw [5, 6] (fun a b wr => ∃ i j : Nat, i ≤ j ∧ j ≤ n ∧ a = .int .i64 (i : Nat) ∧ b = .int .i64 (j : Nat) ∧ Hid ((i = 0 ∨ kc t bs (low + i * 64) ≤ k) ∧ (j = n ∨ k < kc t bs (low + (j + 1) * 64))) ∧ Below w.heap.size w wr) (fun a b _ => (intOf b).toNat - (intOf a).toNat)
 case atStart => exact ⟨0, n, by omega, by omega, rfl, rfl, hid ⟨Or.inl rfl, Or.inl rfl⟩, Below.refl _ _⟩
 case round =>
  obtain ⟨i, j, hij, hj, rfl, rfl, hs, hB⟩ := hrel
  have hsz := hB.size
  rcases Nat.lt_or_ge i j with hlt | hge
  ·have hlti : (i : Int) < (j : Int) := by omega
   obtain ⟨h, hh⟩ : ∃ h, h = (i + j) / 2 := ⟨_, rfl⟩
   have hm : ((i : Int) + (j : Int)) / 2 = (h : Int) := by omega
   have hih : i ≤ h := by omega
   have hhj : h < j := by omega
   have HF := hid (zzq fa t hfa gd gx A c bs Ad cd b7 b10 b6 low k h (low + (h + 1) * 64) wr (hd.below hB) ((hB.cell (p := ⟨b7, 0, none⟩) l7).trans h7) ((hB.cell (p := ⟨b10, 0, none⟩) l10).trans h10) ((hB.cell (p := ⟨b6, 0, none⟩) l6).trans h6) (by omega) (by omega) (by omega) rfl (by omega))
   clear hh
   cases hf : decide (k < kc t bs (low + (h + 1) * 64))
   all_goals
    rw [hf] at HF
    have HH := hid hf
    clear hf
    go_wp2_with fail
    refine HF.out.mono ?_
    rintro e w2 ⟨rfl, hB2⟩
    have hB3 := hB.trans (hB2.mono hsz)
    go_wp2
    go_roundw
   case rel => exact ⟨h + 1, j, by omega, by omega, by go_num, rfl, hid ⟨Or.inr (by have := HH.out; rw [decide_eq_false_iff_not] at this; omega), hs.out.2⟩, hB3⟩
   case measure => simp [intOf]; omega
   case rel => exact ⟨i, h, by omega, by omega, rfl, by go_num, hid ⟨hs.out.1, Or.inr (by have := HH.out; rw [decide_eq_true_eq] at this; exact this)⟩, hB3⟩
   case measure => simp [intOf]; omega
  ·obtain rfl : i = j := by omega
   go_wp2
   go_ret
   exact ⟨i, rfl, hj, hs.out.1, hs.out.2, hB⟩
theorem zg8 {l : List Nat} {i x : Nat} (h : l[i]? = some x) : (zz l)[i]? = some (.int .i64 (x : Nat)) := by rw [zz, List.getElem?_map, h]; rfl
theorem zzr {W w1 : World} (hb : Below W.heap.size W w1) : ∀ b o, b < W.heap.size → w1.cell? ⟨b, o, none⟩ = W.cell? ⟨b, o, none⟩ := fun b o h => hb.cell (p := ⟨b, o, none⟩) h
theorem zl1 (fa : Nat) (t : Bool) (hfa : Ranks fa t) (g gd gx : Nat) (A : Option Addr) (c : Nat) (bs : List Bool) (Ad : Option Addr) (cd : Nat) (Al : Option Addr) (cl nn : Nat) (l : List Nat) (k : Nat) (w : World)
  (hg : w.cell? ⟨g, 0, none⟩ = some (.pointer (some ⟨gd, 0, none⟩))) (hgl : g < w.heap.size) (hd : zck w gd gx A c bs Ad cd) (hl : Lst w Al (zz l)) (hh : Half t bs bs.length l) (hk : k < kc t bs bs.length) :
  Calls Tryz.prog 173 #[.pointer (some ⟨g, 0, none⟩), .agg #[.slice Al l.length cl, .int .i64 (nn : Nat)], .int .i64 (k : Nat), ahead fa gd] w fun e w' =>
   ∃ q : Nat, e = .returned (.tuple #[.int .i64 (q : Nat), .int .i64 (k - kc t bs (64 * q) : Nat)]) ∧ kc t bs (64 * q) ≤ k ∧ k < kc t bs (64 * q + 64) ∧ Below w.heap.size w w' := by
 have hsm := hd.row.small
 have hkl := zhl t bs bs.length
 have hll := hh.1
 obtain ⟨x, hx, hxl, hxk⟩ := z1p hh k hk
 obtain ⟨m, hm⟩ : ∃ m, m = k / 256 := ⟨_, rfl⟩
 have e1 : (k : Int) / 256 = (m : Int) := by omega
 have hml : m < l.length := by omega
 have hmi : (m : Int) < (l.length : Int) := by omega
 obtain ⟨ab, ao, rfl, had, hcl⟩ := hl.lit (by rw [zc6]; omega)
 have wc0 := hcl _ _ (zg8 (by rw [← hm] at hx; exact hx))
 obtain ⟨hi, hhi, hhk⟩ : ∃ hi : Nat, (hi = if m + 1 < l.length then (l[m + 1]?.getD 0 + 1) * 512 else bs.length) ∧ k < kc t bs hi ∧ hi ≤ bs.length + 512 := by
  refine ⟨_, rfl, ?_⟩
  by_cases h : m + 1 < l.length
  ·rw [if_pos h]
   obtain ⟨y, hy⟩ : ∃ y, l[m + 1]? = some y := ⟨_, List.getElem?_eq_getElem h⟩
   have := zzd hh k y (by rw [← hm]; exact hy)
   rw [hy]
   simp only [Option.getD_some]
   rw [Nat.mul_comm]
   exact ⟨this.1, by omega⟩
  ·rw [if_neg h]; exact ⟨hk, by omega⟩
 have hlt : 512 * x < hi := by
  rcases Nat.lt_or_ge (512 * x) hi with h | h
  ·exact h
  ·have := ze9 t bs h; omega
 have HSE := hid (fun b7 b10 b6 low n W => zxs fa t hfa gd gx A c bs Ad cd b7 b10 b6 low k n W)
 have HAH := hid (fun i W hW => hfa.1 gd gx A c bs Ad cd i W hW)
 have hce := hfa.2
 unfold ahead at *
 have HX := hid (And.intro hx (And.intro hhi hll))
 clear hx hhi hm hll
 obtain ⟨low, hlow⟩ : ∃ low, low = 512 * x := ⟨_, rfl⟩
 have x1 : (x : Int) * 512 = (low : Int) := by omega
 have HLOW := hid hlow
 clear hlow
 have hB3 : Below w.heap.size w (((w.alloc (.cells #[.slice (some ⟨ab, ao, none⟩) l.length cl, .int .i64 (nn : Nat)] 197)).alloc (.cells #[.int .i64 (k : Nat)] 3)).alloc (.cells #[.func (.func fa) #[.pointer (some ⟨gd, 0, none⟩)] #[]] 86)) :=
  (((Below.refl _ _).alloc (Nat.le_refl _) _).alloc (by simp) _).alloc (by simp; omega) _
 have hB4 := hB3.alloc hB3.size (.cells #[.int .i64 (low : Nat)] 3)
 have hc3 := zzr hB3
 have hc4 := zzr hB4
 have hd4 := hd.below hB4
 have hr4 := hd4.row
 have hcl4 := hr4.cells.2
 have hlow2 : low < hi := by have := HLOW.out; omega
 have hlow3 : low ≤ 4294967296 := by have := HLOW.out; omega
 have hhi3 : hi ≤ 4294967808 := by omega
 obtain ⟨nn2, hnn2⟩ : ∃ n, n = (hi - low + 63) / 64 := ⟨_, rfl⟩
 have x3 : ((hi : Int) - (low : Int) + 64 - 1) / 64 = (nn2 : Int) := by omega
 have hnn3 : nn2 ≤ 67108900 := by omega
 have HNN := hid hnn2
 obtain ⟨lw, hlw⟩ : ∃ n, n = low / 64 := ⟨_, rfl⟩
 have x4 : (low : Int) / 64 = (lw : Int) := by omega
 have HLW := hid hlw
 clear hnn2 hlw
 have hmf : ∀ (fn : Fn) (first cap : Array Value) (w : World), (Instr.makeFunc fn first cap).run Tryz.prog w = .ok (.func fn first cap) w := fun _ _ _ _ => rfl
 have hz4 : (((( w.alloc (.cells #[.slice (some ⟨ab, ao, none⟩) l.length cl, .int .i64 (nn : Nat)] 197)).alloc (.cells #[.int .i64 (k : Nat)] 3)).alloc (.cells #[.func (.func fa) #[.pointer (some ⟨gd, 0, none⟩)] #[]] 86)).alloc (.cells #[.int .i64 (low : Nat)] 3)).heap.size = w.heap.size + 1 + 1 + 1 + 1 := by simp
 have B7 : za ((((w.alloc (.cells #[.slice (some ⟨ab, ao, none⟩) l.length cl, .int .i64 (nn : Nat)] 197)).alloc (.cells #[.int .i64 (k : Nat)] 3)).alloc (.cells #[.func (.func fa) #[.pointer (some ⟨gd, 0, none⟩)] #[]] 86)).alloc (.cells #[.int .i64 (low : Nat)] 3)) (w.heap.size + 1 + 1) 86 #[.func (.func fa) #[.pointer (some ⟨gd, 0, none⟩)] #[]] := by
  have := (za.new ((w.alloc (.cells #[.slice (some ⟨ab, ao, none⟩) l.length cl, .int .i64 (nn : Nat)] 197)).alloc (.cells #[.int .i64 (k : Nat)] 3)) 86 #[.func (.func fa) #[.pointer (some ⟨gd, 0, none⟩)] #[]]).alloc (.cells #[.int .i64 (low : Nat)] 3)
  simpa using this
 have B6 : za ((((w.alloc (.cells #[.slice (some ⟨ab, ao, none⟩) l.length cl, .int .i64 (nn : Nat)] 197)).alloc (.cells #[.int .i64 (k : Nat)] 3)).alloc (.cells #[.func (.func fa) #[.pointer (some ⟨gd, 0, none⟩)] #[]] 86)).alloc (.cells #[.int .i64 (low : Nat)] 3)) (w.heap.size + 1) 3 #[.int .i64 (k : Nat)] := by
  have := ((za.new (w.alloc (.cells #[.slice (some ⟨ab, ao, none⟩) l.length cl, .int .i64 (nn : Nat)] 197)) 3 #[.int .i64 (k : Nat)]).alloc (.cells #[.func (.func fa) #[.pointer (some ⟨gd, 0, none⟩)] #[]] 86)).alloc (.cells #[.int .i64 (low : Nat)] 3)
  simpa using this
 have B10 : za ((((w.alloc (.cells #[.slice (some ⟨ab, ao, none⟩) l.length cl, .int .i64 (nn : Nat)] 197)).alloc (.cells #[.int .i64 (k : Nat)] 3)).alloc (.cells #[.func (.func fa) #[.pointer (some ⟨gd, 0, none⟩)] #[]] 86)).alloc (.cells #[.int .i64 (low : Nat)] 3)) (w.heap.size + 1 + 1 + 1) 3 #[.int .i64 (low : Nat)] := by
  have := za.new (((w.alloc (.cells #[.slice (some ⟨ab, ao, none⟩) l.length cl, .int .i64 (nn : Nat)] 197)).alloc (.cells #[.int .i64 (k : Nat)] 3)).alloc (.cells #[.func (.func fa) #[.pointer (some ⟨gd, 0, none⟩)] #[]] 86)) 3 #[.int .i64 (low : Nat)]
  simpa using this
 by_cases hm1 : m + 1 < l.length
 ·obtain ⟨y, hy⟩ : ∃ y, l[m + 1]? = some y := ⟨_, List.getElem?_eq_getElem hm1⟩
  have wc1 := hcl _ _ (zg8 hy)
  have x5 : ((y : Int) + 1) * 512 = (hi : Int) := by
   have h := HX.out.2.1
   rw [if_pos hm1, hy] at h
   simp only [Option.getD_some] at h
   omega
  have hmi2 : (m : Int) + 1 < (l.length : Int) := by omega
  clear hy hcl
  go_enter Tryz.func173, Tryz.ntmps173
  go_wp2_with fail
  refine (zfz _ _ _ _ _ _ _ _ hd4).mono ?_
  rintro e w' ⟨rfl, rfl⟩
  go_wp2_with fail
  refine (zar _ _ _ hcl4).mono ?_
  rintro e w' ⟨rfl, rfl⟩
  go_wp2_with fail
  refine (HSE.out (w.heap.size + 1 + 1) (w.heap.size + 1 + 1 + 1) (w.heap.size + 1) low nn2 _ hd4 (by exact B7.cell 0) (by exact B10.cell 0) (by exact B6.cell 0) B7.lt B10.lt B6.lt hlow3 hnn3).mono ?_
  rintro e w5 ⟨r, rfl, hr1, hr2, hr3, hB5⟩
  have hd5 := hd4.below hB5
  have c7 := (B7.below hB5).cell 0
  have c6 := (B6.below hB5).cell 0
  have c10 := (B10.below hB5).cell 0
  simp only [List.getElem?_toArray, List.getElem?_cons_zero] at c7 c6 c10
  have hlw := HLW.out
  have hnn2 := HNN.out
  have hLOW := HLOW.out
  have hrn : r < nn2 := by
   rcases Nat.lt_or_ge r nn2 with h | h
   ·exact h
   ·exfalso
    have hrr : r = nn2 := by omega
    rcases hr2 with h0 | h0
    ·omega
    ·have := ze9 t bs (show hi ≤ low + r * 64 by omega)
     omega
  have hk1 : kc t bs (64 * (lw + r)) ≤ k := by
   rw [show 64 * (lw + r) = low + r * 64 from by omega]
   rcases hr2 with h0 | h0
   ·rw [h0, hLOW, Nat.zero_mul, Nat.add_zero]; exact hxk
   ·exact h0
  have hk2 : k < kc t bs (64 * (lw + r) + 64) := by
   rw [show 64 * (lw + r) + 64 = low + (r + 1) * 64 from by omega]
   rcases hr3 with h0 | h0
   ·omega
   ·exact h0
  obtain ⟨q, hq⟩ : ∃ q, q = lw + r := ⟨_, rfl⟩
  have hqp : 64 * q = low + r * 64 := by omega
  rw [← hq] at hk1 hk2
  obtain ⟨pp, hpp⟩ : ∃ pp, pp = 64 * q := ⟨_, rfl⟩
  rw [← hpp] at hk1 hk2
  have y0 : (lw : Int) + (r : Int) = (q : Int) := by omega
  have y1 : (low : Int) + (r : Int) * 64 = (pp : Int) := by omega
  have y2 : IntKind.i64.wrap ((r : Int) * 64) = (r : Int) * 64 := by rw [IntKind.wrap_i64]; omega
  have y3 : IntKind.i64.wrap (pp : Int) = (pp : Int) := by rw [IntKind.wrap_i64]; omega
  have y4 : IntKind.i64.wrap (q : Int) = (q : Int) := by rw [IntKind.wrap_i64]; omega
  have y5 : IntKind.i64.wrap ((k : Int) - (kc t bs pp : Nat)) = (k : Int) - (kc t bs pp : Nat) := by rw [IntKind.wrap_i64]; omega
  have y6 : (k : Int) - (kc t bs pp : Nat) = ((k - kc t bs pp : Nat) : Int) := by omega
  have y7 : IntKind.i64.wrap (lw : Int) = (lw : Int) := by rw [IntKind.wrap_i64]; omega
  have y8 : IntKind.i64.wrap ((k - kc t bs pp : Nat) : Int) = ((k - kc t bs pp : Nat) : Int) := by rw [IntKind.wrap_i64]; omega
  have HPP := hid hpp
  have HK1 := hid hk1
  have HK2 := hid hk2
  clear hpp hqp hq hlw hnn2 hLOW hk1 hk2 hr2 hr3
  have C1 := hid (fun W (hW : Below w5.heap.size w5 W) => show Calls Tryz.prog fa #[.pointer (some ⟨gd, 0, none⟩), .int .i64 (pp : Nat)] W (fun e w' => e = .returned (.int .i64 (kc t bs pp : Nat)) ∧ Below w5.heap.size w5 w') from
   (HAH.out pp W (hd5.below hW)).mono (fun e w' ⟨he, hb⟩ => ⟨he, hW.trans (hb.mono hW.size)⟩))
  have KC := hid (show ∀ W, Below w5.heap.size w5 W → W.cell? ⟨w.heap.size + 1 + 1, 0, none⟩ = some (.func (.func fa) #[.pointer (some ⟨gd, 0, none⟩)] #[]) ∧ W.cell? ⟨w.heap.size + 1 + 1 + 1, 0, none⟩ = some (.int .i64 (low : Nat)) ∧ W.cell? ⟨w.heap.size + 1, 0, none⟩ = some (.int .i64 (k : Nat)) from fun W hW =>
   ⟨(hW.cell (p := ⟨w.heap.size + 1 + 1, 0, none⟩) (B7.below hB5).lt).trans c7, (hW.cell (p := ⟨w.heap.size + 1 + 1 + 1, 0, none⟩) (B10.below hB5).lt).trans c10, (hW.cell (p := ⟨w.heap.size + 1, 0, none⟩) (B6.below hB5).lt).trans c6⟩)
  have hBr := Below.refl w5.heap.size w5
  have hBall : Below w.heap.size w w5 := hB4.trans (hB5.mono hB4.size)
  have hzz := hBall.size
  generalize hkk : kc t bs pp = kk at *
  have HKK := hid hkk
  clear hkk
  go_wp2_with fail
  go_region_held3 (fun w' => Below w5.heap.size w5 w' ∧ w'.cell? ⟨w.heap.size + 1 + 1, 0, none⟩ = some (.func (.func fa) #[.pointer (some ⟨gd, 0, none⟩)] #[]) ∧ w'.cell? ⟨w.heap.size + 1 + 1 + 1, 0, none⟩ = some (.int .i64 (low : Nat)) ∧ w'.cell? ⟨w.heap.size + 1, 0, none⟩ = some (.int .i64 (k : Nat)))
   (first | exact ⟨hBr.drew, c7, c10, c6⟩ | exact ⟨e1, KC.out _ e1⟩ | assumption)
   (first
    | (refine (C1.out _ (by first | assumption | exact And.left (by assumption))).mono ?_; rintro e w6 ⟨rfl, e1⟩))
  all_goals go_wp2
  all_goals go_ret2
  all_goals
   exact ⟨q, by rw [← HPP.out, HKK.out]; rfl, by rw [← HPP.out, HKK.out]; exact HK1.out, by rw [← HPP.out]; exact HK2.out, hBall.trans (Below.mono (by first | exact e1 | assumption | exact And.left (by assumption)) hzz)⟩
 ·have x5 : (bs.length : Int) = (hi : Int) := by
   have h := HX.out.2.1
   rw [if_neg hm1] at h
   omega
  have hmi2 : ¬ ((m : Int) + 1 < (l.length : Int)) := by omega
  clear hcl
  go_enter Tryz.func173, Tryz.ntmps173
  go_wp2_with fail
  refine (zfz _ _ _ _ _ _ _ _ hd4).mono ?_
  rintro e w' ⟨rfl, rfl⟩
  go_wp2_with fail
  refine (zar _ _ _ hcl4).mono ?_
  rintro e w' ⟨rfl, rfl⟩
  go_wp2_with fail
  refine (HSE.out (w.heap.size + 1 + 1) (w.heap.size + 1 + 1 + 1) (w.heap.size + 1) low nn2 _ hd4 (by exact B7.cell 0) (by exact B10.cell 0) (by exact B6.cell 0) B7.lt B10.lt B6.lt hlow3 hnn3).mono ?_
  rintro e w5 ⟨r, rfl, hr1, hr2, hr3, hB5⟩
  have hd5 := hd4.below hB5
  have c7 := (B7.below hB5).cell 0
  have c6 := (B6.below hB5).cell 0
  have c10 := (B10.below hB5).cell 0
  simp only [List.getElem?_toArray, List.getElem?_cons_zero] at c7 c6 c10
  have hlw := HLW.out
  have hnn2 := HNN.out
  have hLOW := HLOW.out
  have hrn : r < nn2 := by
   rcases Nat.lt_or_ge r nn2 with h | h
   ·exact h
   ·exfalso
    have hrr : r = nn2 := by omega
    rcases hr2 with h0 | h0
    ·omega
    ·have := ze9 t bs (show hi ≤ low + r * 64 by omega)
     omega
  have hk1 : kc t bs (64 * (lw + r)) ≤ k := by
   rw [show 64 * (lw + r) = low + r * 64 from by omega]
   rcases hr2 with h0 | h0
   ·rw [h0, hLOW, Nat.zero_mul, Nat.add_zero]; exact hxk
   ·exact h0
  have hk2 : k < kc t bs (64 * (lw + r) + 64) := by
   rw [show 64 * (lw + r) + 64 = low + (r + 1) * 64 from by omega]
   rcases hr3 with h0 | h0
   ·omega
   ·exact h0
  obtain ⟨q, hq⟩ : ∃ q, q = lw + r := ⟨_, rfl⟩
  have hqp : 64 * q = low + r * 64 := by omega
  rw [← hq] at hk1 hk2
  obtain ⟨pp, hpp⟩ : ∃ pp, pp = 64 * q := ⟨_, rfl⟩
  rw [← hpp] at hk1 hk2
  have y0 : (lw : Int) + (r : Int) = (q : Int) := by omega
  have y1 : (low : Int) + (r : Int) * 64 = (pp : Int) := by omega
  have y2 : IntKind.i64.wrap ((r : Int) * 64) = (r : Int) * 64 := by rw [IntKind.wrap_i64]; omega
  have y3 : IntKind.i64.wrap (pp : Int) = (pp : Int) := by rw [IntKind.wrap_i64]; omega
  have y4 : IntKind.i64.wrap (q : Int) = (q : Int) := by rw [IntKind.wrap_i64]; omega
  have y5 : IntKind.i64.wrap ((k : Int) - (kc t bs pp : Nat)) = (k : Int) - (kc t bs pp : Nat) := by rw [IntKind.wrap_i64]; omega
  have y6 : (k : Int) - (kc t bs pp : Nat) = ((k - kc t bs pp : Nat) : Int) := by omega
  have y7 : IntKind.i64.wrap (lw : Int) = (lw : Int) := by rw [IntKind.wrap_i64]; omega
  have y8 : IntKind.i64.wrap ((k - kc t bs pp : Nat) : Int) = ((k - kc t bs pp : Nat) : Int) := by rw [IntKind.wrap_i64]; omega
  have HPP := hid hpp
  have HK1 := hid hk1
  have HK2 := hid hk2
  clear hpp hqp hq hlw hnn2 hLOW hk1 hk2 hr2 hr3
  have C1 := hid (fun W (hW : Below w5.heap.size w5 W) => show Calls Tryz.prog fa #[.pointer (some ⟨gd, 0, none⟩), .int .i64 (pp : Nat)] W (fun e w' => e = .returned (.int .i64 (kc t bs pp : Nat)) ∧ Below w5.heap.size w5 w') from
   (HAH.out pp W (hd5.below hW)).mono (fun e w' ⟨he, hb⟩ => ⟨he, hW.trans (hb.mono hW.size)⟩))
  have KC := hid (show ∀ W, Below w5.heap.size w5 W → W.cell? ⟨w.heap.size + 1 + 1, 0, none⟩ = some (.func (.func fa) #[.pointer (some ⟨gd, 0, none⟩)] #[]) ∧ W.cell? ⟨w.heap.size + 1 + 1 + 1, 0, none⟩ = some (.int .i64 (low : Nat)) ∧ W.cell? ⟨w.heap.size + 1, 0, none⟩ = some (.int .i64 (k : Nat)) from fun W hW =>
   ⟨(hW.cell (p := ⟨w.heap.size + 1 + 1, 0, none⟩) (B7.below hB5).lt).trans c7, (hW.cell (p := ⟨w.heap.size + 1 + 1 + 1, 0, none⟩) (B10.below hB5).lt).trans c10, (hW.cell (p := ⟨w.heap.size + 1, 0, none⟩) (B6.below hB5).lt).trans c6⟩)
  have hBr := Below.refl w5.heap.size w5
  have hBall : Below w.heap.size w w5 := hB4.trans (hB5.mono hB4.size)
  have hzz := hBall.size
  generalize hkk : kc t bs pp = kk at *
  have HKK := hid hkk
  clear hkk
  go_wp2_with fail
  go_region_held3 (fun w' => Below w5.heap.size w5 w' ∧ w'.cell? ⟨w.heap.size + 1 + 1, 0, none⟩ = some (.func (.func fa) #[.pointer (some ⟨gd, 0, none⟩)] #[]) ∧ w'.cell? ⟨w.heap.size + 1 + 1 + 1, 0, none⟩ = some (.int .i64 (low : Nat)) ∧ w'.cell? ⟨w.heap.size + 1, 0, none⟩ = some (.int .i64 (k : Nat)))
   (first | exact ⟨hBr.drew, c7, c10, c6⟩ | exact ⟨e1, KC.out _ e1⟩ | assumption)
   (first
    | (refine (C1.out _ (by first | assumption | exact And.left (by assumption))).mono ?_; rintro e w6 ⟨rfl, e1⟩))
  all_goals go_wp2
  all_goals go_ret2
  all_goals
   exact ⟨q, by rw [← HPP.out, HKK.out]; rfl, by rw [← HPP.out, HKK.out]; exact HK1.out, by rw [← HPP.out]; exact HK2.out, hBall.trans (Below.mono (by first | exact e1 | assumption | exact And.left (by assumption)) hzz)⟩
theorem zst (g gd gx : Nat) (A : Option Addr) (c : Nat) (bs : List Bool) (Ad : Option Addr) (cd : Nat) (A1 : Option Addr) (c1 : Nat) (l1 : List Nat) (A0 : Option Addr) (c0 : Nat) (l0 : List Nat) (k p : Nat) (w : World)
  (hc : zab w g gd gx A c bs Ad cd A1 c1 l1 A0 c0 l0) (hT : Tab w) (hp : p < bs.length) (hb : zb bs p = true) (hk : kc true bs p = k) :
  Calls Tryz.prog 144 #[.pointer (some ⟨g, 0, none⟩), .int .i64 (k : Nat)] w fun e w' => e = .returned (.tuple #[.int .i64 (p : Nat), .int .i64 0]) ∧ Below w.heap.size w w' := by
 have k0 : w.cell? ⟨g, 0, none⟩ = some (.pointer (some ⟨gd, 0, none⟩)) := hc.blk.cell 0
 have k1 : w.cell? ⟨g, 1, none⟩ = some (.slice A1 l1.length c1) := hc.blk.cell 1
 have k2 : w.cell? ⟨g, 2, none⟩ = some (.int .i64 (kc true bs bs.length : Nat)) := hc.blk.cell 2
 have hg := hc.blk.lt
 have hkn : k < kc true bs bs.length := by rw [← hk]; exact zib true bs p bs.length hp hp hb
 have hki : ¬ ((kc true bs bs.length : Nat) : Int) ≤ (k : Int) := by omega
 have C1 : ∀ W, Below w.heap.size w W → Calls Tryz.prog 173 #[.pointer (some ⟨g, 0, none⟩), .agg #[.slice A1 l1.length c1, .int .i64 (kc true bs bs.length : Nat)], .int .i64 (k : Nat), .func (.func 174) #[.pointer (some ⟨gd, 0, none⟩)] #[]] W fun e w' =>
   ∃ q : Nat, e = .returned (.tuple #[.int .i64 (q : Nat), .int .i64 (k - kc true bs (64 * q) : Nat)]) ∧ kc true bs (64 * q) ≤ k ∧ k < kc true bs (64 * q + 64) ∧ Below w.heap.size w w' := fun W hW => by
  refine (zl1 _ true zzp g gd gx A c bs Ad cd A1 c1 (kc true bs bs.length) l1 k W ((hW.cell (p := ⟨g, 0, none⟩) hg).trans k0) (by have := hW.size; omega) (hc.dir.below hW) (hc.one.below hW) hc.half1 hkn).mono ?_
  rintro e w' ⟨q, rfl, h1, h2, hB⟩
  exact ⟨q, rfl, h1, h2, hW.trans (hB.mono hW.size)⟩
 have H1 := hid C1
 have KC := hid (show ∀ W, Below w.heap.size w W → W.cell? ⟨g, 0, none⟩ = some (.pointer (some ⟨gd, 0, none⟩)) ∧ W.cell? ⟨g, 1, none⟩ = some (.slice A1 l1.length c1) ∧ W.cell? ⟨g, 2, none⟩ = some (.int .i64 (kc true bs bs.length : Nat)) from fun W hW =>
  ⟨(hW.cell (p := ⟨g, 0, none⟩) hg).trans k0, (hW.cell (p := ⟨g, 1, none⟩) hg).trans k1, (hW.cell (p := ⟨g, 2, none⟩) hg).trans k2⟩)
 have hB0 := Below.refl w.heap.size w
 have hmf : ∀ (fn : Fn) (first cap : Array Value) (w : World), (Instr.makeFunc fn first cap).run Tryz.prog w = .ok (.func fn first cap) w := fun _ _ _ _ => rfl
 have HK := hid hk
 clear C1 hk
 generalize kc true bs bs.length = n at *
 go_enter Tryz.func144, Tryz.ntmps144
 go_wp2_with fail
 go_region_held3 (fun w' => Below w.heap.size w w' ∧ w'.cell? ⟨g, 0, none⟩ = some (.pointer (some ⟨gd, 0, none⟩)) ∧ w'.cell? ⟨g, 1, none⟩ = some (.slice A1 l1.length c1) ∧ w'.cell? ⟨g, 2, none⟩ = some (.int .i64 (n : Nat)))
  (first | exact ⟨hB0.drew, k0, k1, k2⟩ | exact ⟨e1, KC.out _ e1⟩ | assumption)
  (first
   | (go_at_call 173; refine (H1.out _ (by first | assumption | exact And.left (by assumption))).mono ?_; rintro e w5 ⟨q, rfl, hq1, hq2, e1⟩))
 all_goals
  have hk := HK.out
  obtain ⟨p1, p2⟩ := zv6 hp hb hk hq1 hq2
  obtain ⟨j, rfl⟩ : ∃ j, p = 64 * q + j := ⟨p - 64 * q, by omega⟩
  have hj : j < 64 := by omega
  have hsl := z5j bs q j hj hp hb
  rw [hk] at hsl
  have hd5 := hc.dir.below e1
  have hr5 := hd5.row
  have hT5 := hT.below e1
  have hsm := hr5.small
  have hwl := za3 bs q
  have HW := hid (fun W hW => by have := zdl gx A c bs (q : Nat) W hW; rw [zd8] at this; exact this)
  have HS := hid (fun W hW => by have := znp (zk bs q) ((k - kc true bs (64 * q) : Nat) : Int) W hwl hW; rw [hsl] at this; exact this)
  have hq1' : kc true bs (64 * q) ≤ k := hq1
  have b1 := zhl true bs (64 * q)
  clear hsl hk KC H1
  generalize kc true bs (64 * q) = kq at *
  generalize zk bs q = v at *
  go_wp2_with fail
  refine (zfz _ _ _ _ _ _ _ _ hd5).mono ?_
  rintro e w' ⟨rfl, rfl⟩
  go_wp2_with fail
  refine (HW.out _ hr5).mono ?_
  rintro e w' ⟨rfl, rfl⟩
  go_wp2_with fail
  refine (HS.out _ hT5).mono ?_
  rintro e w' ⟨rfl, rfl⟩
  go_wp2
  go_ret2
  exact ⟨by rw [show ((64 * q + j : Nat) : Int) = (q : Int) * 64 + (j : Int) from by omega]; rfl, e1⟩
theorem zzs (g gd gx : Nat) (A : Option Addr) (c : Nat) (bs : List Bool) (Ad : Option Addr) (cd : Nat) (A1 : Option Addr) (c1 : Nat) (l1 : List Nat) (A0 : Option Addr) (c0 : Nat) (l0 : List Nat) (k p : Nat) (w : World)
  (hc : zab w g gd gx A c bs Ad cd A1 c1 l1 A0 c0 l0) (hT : Tab w) (hp : p < bs.length) (hb : zb bs p = false) (hk : kc false bs p = k) :
  Calls Tryz.prog 183 #[.pointer (some ⟨g, 0, none⟩), .int .i64 (k : Nat)] w fun e w' => e = .returned (.tuple #[.int .i64 (p : Nat), .int .i64 0]) ∧ Below w.heap.size w w' := by
 have k0 : w.cell? ⟨g, 0, none⟩ = some (.pointer (some ⟨gd, 0, none⟩)) := hc.blk.cell 0
 have k1 : w.cell? ⟨g, 3, none⟩ = some (.slice A0 l0.length c0) := hc.blk.cell 3
 have k2 : w.cell? ⟨g, 4, none⟩ = some (.int .i64 (kc false bs bs.length : Nat)) := hc.blk.cell 4
 have hg := hc.blk.lt
 have hkn : k < kc false bs bs.length := by rw [← hk]; exact zib false bs p bs.length hp hp hb
 have hki : ¬ ((kc false bs bs.length : Nat) : Int) ≤ (k : Int) := by omega
 have C1 : ∀ W, Below w.heap.size w W → Calls Tryz.prog 173 #[.pointer (some ⟨g, 0, none⟩), .agg #[.slice A0 l0.length c0, .int .i64 (kc false bs bs.length : Nat)], .int .i64 (k : Nat), .func (.func 207) #[.pointer (some ⟨gd, 0, none⟩)] #[]] W fun e w' =>
   ∃ q : Nat, e = .returned (.tuple #[.int .i64 (q : Nat), .int .i64 (k - kc false bs (64 * q) : Nat)]) ∧ kc false bs (64 * q) ≤ k ∧ k < kc false bs (64 * q + 64) ∧ Below w.heap.size w w' := fun W hW => by
  refine (zl1 _ false zxr g gd gx A c bs Ad cd A0 c0 (kc false bs bs.length) l0 k W ((hW.cell (p := ⟨g, 0, none⟩) hg).trans k0) (by have := hW.size; omega) (hc.dir.below hW) (hc.zero.below hW) hc.half0 hkn).mono ?_
  rintro e w' ⟨q, rfl, h1, h2, hB⟩
  exact ⟨q, rfl, h1, h2, hW.trans (hB.mono hW.size)⟩
 have H1 := hid C1
 have KC := hid (show ∀ W, Below w.heap.size w W → W.cell? ⟨g, 0, none⟩ = some (.pointer (some ⟨gd, 0, none⟩)) ∧ W.cell? ⟨g, 3, none⟩ = some (.slice A0 l0.length c0) ∧ W.cell? ⟨g, 4, none⟩ = some (.int .i64 (kc false bs bs.length : Nat)) from fun W hW =>
  ⟨(hW.cell (p := ⟨g, 0, none⟩) hg).trans k0, (hW.cell (p := ⟨g, 3, none⟩) hg).trans k1, (hW.cell (p := ⟨g, 4, none⟩) hg).trans k2⟩)
 have hB0 := Below.refl w.heap.size w
 have hmf : ∀ (fn : Fn) (first cap : Array Value) (w : World), (Instr.makeFunc fn first cap).run Tryz.prog w = .ok (.func fn first cap) w := fun _ _ _ _ => rfl
 have HK := hid hk
 clear C1 hk
 generalize kc false bs bs.length = n at *
 go_enter Tryz.func183, Tryz.ntmps183
 go_wp2_with fail
 go_region_held3 (fun w' => Below w.heap.size w w' ∧ w'.cell? ⟨g, 0, none⟩ = some (.pointer (some ⟨gd, 0, none⟩)) ∧ w'.cell? ⟨g, 3, none⟩ = some (.slice A0 l0.length c0) ∧ w'.cell? ⟨g, 4, none⟩ = some (.int .i64 (n : Nat)))
  (first | exact ⟨hB0.drew, k0, k1, k2⟩ | exact ⟨e1, KC.out _ e1⟩ | assumption)
  (first
   | (go_at_call 173; refine (H1.out _ (by first | assumption | exact And.left (by assumption))).mono ?_; rintro e w5 ⟨q, rfl, hq1, hq2, e1⟩))
 all_goals
  have hk := HK.out
  obtain ⟨p1, p2⟩ := zv6 hp hb hk hq1 hq2
  obtain ⟨j, rfl⟩ : ∃ j, p = 64 * q + j := ⟨p - 64 * q, by omega⟩
  have hj : j < 64 := by omega
  have hsl := z1q bs q j hj hp hb
  rw [hk] at hsl
  have hd5 := hc.dir.below e1
  have hr5 := hd5.row
  have hT5 := hT.below e1
  have hsm := hr5.small
  have hwl := za3 bs q
  have HW := hid (fun W hW => by have := zdl gx A c bs (q : Nat) W hW; rw [zd8] at this; exact this)
  have HS := hid (fun W hW => by have := znp (comp (zk bs q)) ((k - kc false bs (64 * q) : Nat) : Int) W (zoq _) hW; rw [hsl] at this; exact this)
  have hxr := zss (zk bs q) hwl
  have hq1' : kc false bs (64 * q) ≤ k := hq1
  have b1 := zhl false bs (64 * q)
  clear hsl hk KC H1
  generalize kc false bs (64 * q) = kq at *
  generalize zk bs q = v at *
  go_wp2_with fail
  refine (zfz _ _ _ _ _ _ _ _ hd5).mono ?_
  rintro e w' ⟨rfl, rfl⟩
  go_wp2_with fail
  refine (HW.out _ hr5).mono ?_
  rintro e w' ⟨rfl, rfl⟩
  go_wp2_with fail
  refine (HS.out _ hT5).mono ?_
  rintro e w' ⟨rfl, rfl⟩
  go_wp2
  go_ret2
  exact ⟨by rw [show ((64 * q + j : Nat) : Int) = (q : Int) * 64 + (j : Int) from by omega]; rfl, e1⟩
theorem zi2 (g gd gx : Nat) (A : Option Addr) (c : Nat) (bs : List Bool) (Ad : Option Addr) (cd : Nat) (A1 : Option Addr) (c1 : Nat) (l1 : List Nat) (A0 : Option Addr) (c0 : Nat) (l0 : List Nat) (w : World) (hc : zab w g gd gx A c bs Ad cd A1 c1 l1 A0 c0 l0) :
  Calls Tryz.prog 109 #[.pointer (some ⟨g, 0, none⟩)] w fun e w' => e = .returned (.int .i64 (kc true bs bs.length : Nat)) ∧ w = w' := by
 have k2 : w.cell? ⟨g, 2, none⟩ = some (.int .i64 (kc true bs bs.length : Nat)) := hc.blk.cell 2
 have hg := hc.blk.lt
 generalize kc true bs bs.length = n at *
 go_enter Tryz.func109, Tryz.ntmps109
 go_wp2
 go_ret
 exact ⟨rfl, rfl⟩
theorem znr (g gd gx : Nat) (A : Option Addr) (c : Nat) (bs : List Bool) (Ad : Option Addr) (cd : Nat) (A1 : Option Addr) (c1 : Nat) (l1 : List Nat) (A0 : Option Addr) (c0 : Nat) (l0 : List Nat) (w : World) (hc : zab w g gd gx A c bs Ad cd A1 c1 l1 A0 c0 l0) :
  Calls Tryz.prog 184 #[.pointer (some ⟨g, 0, none⟩)] w fun e w' => e = .returned (.int .i64 (128 * (bs.length / 512 + 1) + 64 * (l1.length + l0.length) : Nat)) ∧ ∃ m, w' = w.drewN m := by
 have hsm := hc.dir.row.small
 have k0 : w.cell? ⟨g, 0, none⟩ = some (.pointer (some ⟨gd, 0, none⟩)) := hc.blk.cell 0
 have k1 : w.cell? ⟨g, 1, none⟩ = some (.slice A1 l1.length c1) := hc.blk.cell 1
 have k3 : w.cell? ⟨g, 3, none⟩ = some (.slice A0 l0.length c0) := hc.blk.cell 3
 have hg := hc.blk.lt
 have b1 := hc.half1.1
 have b0 := hc.half0.1
 have c1' := zhl true bs bs.length
 have c0' := zhl false bs bs.length
 have d1 : l1.length ≤ 67108864 := by omega
 have d0 : l0.length ≤ 67108864 := by omega
 have HS := hid (fun W hW => zsq gd gx A c bs Ad cd W hW)
 have hd := hc.dir
 clear b1 b0 c1' c0'
 generalize l1.length = a1 at *
 generalize l0.length = a0 at *
 have r1 : IntKind.i64.wrap ((a1 : Int) + (a0 : Int)) = (a1 : Int) + (a0 : Int) := by rw [IntKind.wrap_i64]; omega
 have r2 : IntKind.i64.wrap (64 * ((a1 : Int) + (a0 : Int))) = 64 * ((a1 : Int) + (a0 : Int)) := by rw [IntKind.wrap_i64]; omega
 go_enter Tryz.func184, Tryz.ntmps184
 go_wp2
 go_quiet ((go_at_call 208; exact zax (HS.out _ (by exact hd))))
 go_wp2
 go_ret
 exact ⟨by rw [show ((128 * (bs.length / 512 + 1) + 64 * (a1 + a0) : Nat) : Int) = 128 * ((bs.length : Int) / 512 + 1) + 64 * ((a1 : Int) + (a0 : Int)) from by omega]; rfl, _, rfl⟩
end Go.Proofs.YtgpbpgpolpakjaaGreatDoor
