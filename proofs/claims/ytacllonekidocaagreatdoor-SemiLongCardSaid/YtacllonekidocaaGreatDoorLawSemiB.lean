/- Walks: the law SemiLong returns true. -/
import Derived.Test.YtacllonekidocaaGreatDoorSemiE
import Derived.Test.YtacllonekidocaaGreatDoorMarkE
import Derived.Test.YtacllonekidocaaGreatDoorLawSemiA
import Derived.Test.YtacllonekidocaaGreatDoorBitsP
set_option linter.unusedVariables false
set_option linter.unusedSimpArgs false
set_option maxRecDepth 100000
namespace Go.Proofs.YtacllonekidocaaGreatDoor
open Go.RowKit Go.Shelf L

/-- Numbers as bytes. -/
def L.toB (l : List Nat) : List UInt8 := l.map UInt8.ofNat
theorem L.toB_append (a b : List Nat) : toB (a ++ b) = toB a ++ toB b := by unfold toB; rw [List.map_append]
theorem L.toB_length (l : List Nat) : (toB l).length = l.length := by unfold toB; rw [List.length_map]
theorem L.toB_set (l : List Nat) (i x : Nat) : (toB l).set i (UInt8.ofNat x) = toB (l.set i x) := by unfold toB; rw [List.map_set]
theorem L.nb_toB (l : List Nat) (h : ∀ x ∈ l, x < 256) : nb ⟨(toB l).toArray⟩ = l := by
  unfold nb toB
  show (l.map UInt8.ofNat).map UInt8.toNat = l
  rw [List.map_map]
  conv => rhs; rw [← List.map_id l]
  refine List.map_congr_left (fun x hx => ?_)
  have := h x hx
  show (UInt8.ofNat x).toNat = x
  rw [UInt8.toNat_ofNat']; omega
theorem bytes_snoc (l : List Nat) (x : Nat) (hx : x < 256) : Lib.byteCells (toB (l ++ [x])) = Lib.byteCells (toB l) ++ [.int .u8 (x : Nat)] := by
  rw [toB_append]
  unfold Lib.byteCells
  rw [List.map_append]
  congr 1
  show [Value.int .u8 ((UInt8.ofNat x).toNat : Nat)] = _
  rw [UInt8.toNat_ofNat']
  congr 3; omega
theorem bytes_set7 (l : List Nat) (k x : Nat) (hx : x < 256) : (Lib.byteCells (toB l)).set k (.int .u8 (x : Nat)) = Lib.byteCells (toB (l.set k x)) := by
  rw [← toB_set]
  unfold Lib.byteCells
  rw [List.map_set]
  congr 2
  rw [UInt8.toNat_ofNat']; omega
theorem L.list7_small (d i : Nat) : ∀ x ∈ list7 d i, x < 256 := fun x hx => by
  have hu : ∀ i, ∀ x ∈ units7 d i, x < 256 := fun i => by
    induction i with
    | zero => intro x hx; cases hx
    | succ i ih =>
      intro x hx
      rcases List.mem_append.1 (show x ∈ units7 d i ++ unit7 d from hx) with h | h
      · exact ih x h
      · rcases List.mem_append.1 h with h | h
        · rw [(List.mem_replicate.1 h).2]; omega
        · have : x = 44 := by simpa using h
          omega
  unfold list7 at hx
  simp only [List.mem_append, List.mem_cons, List.not_mem_nil, or_false] at hx
  rcases hx with ((h | h) | h) | h
  · omega
  · exact hu i x h
  · rw [(List.mem_replicate.1 h).2]; omega
  · omega

set_option maxHeartbeats 8000000 in
theorem lawSemiLong_any (n g : Nat) (w : World) (hn : n < 65536) (hg : g < 256) (hT : Tab w) :
    Calls Tryz.prog 3 #[.int .u16 (n : Nat), .int .u8 (g : Nat)] w fun e w' => e = .returned (.bool true) ∧ Below w.heap.size w w' := by
  obtain ⟨i0, hi0, iz0, iz1, iz2⟩ := info_parts Tryz.infoU8
  obtain ⟨r, hr⟩ : ∃ r, r = n % 4000 := ⟨_, rfl⟩
  obtain ⟨t, ht⟩ : ∃ t, t = g % 12 := ⟨_, rfl⟩
  have hrI : (n : Int) % 4000 = (r : Int) := by omega
  have htI : (g : Int) % 12 = (t : Int) := by omega
  have hr4 : r < 4000 := by omega
  have ht4 : t < 12 := by omega
  have hrw : IntKind.u16.wrap (n : Int) = (n : Int) := by rw [IntKind.wrap_u16]; omega
  have hrw2 : IntKind.u16.wrap (r : Int) = (r : Int) := by rw [IntKind.wrap_u16]; omega
  have htw2 : IntKind.u8.wrap (t : Int) = (t : Int) := by rw [IntKind.wrap_u8]; omega
  have hkw : IntKind.i64.wrap (1 + (r : Int)) = ((r + 1 : Nat) : Int) := by rw [IntKind.wrap_i64]; omega
  have hdw : IntKind.i64.wrap (1 + (t : Int)) = ((t + 1 : Nat) : Int) := by rw [IntKind.wrap_i64]; omega
  clear hr ht
  go_enter Tryz.func3, Tryz.ntmps3
  go_wp2_with fail
  refine (awake14 _).mono ?_
  rintro e w1 ⟨rfl, hB1⟩
  have hz1 := hB1.size
  have hBa : Below w.heap.size w (w1.alloc (.cells #[.int .u8 91] 5)) := hB1.alloc hz1 _
  have hown0 := World.ownsRow_lit (base := w1.heap.size) (e := 5) (size := 1) w1 #[.int .u8 91] 1 (Nat.le_refl _) (by simp [maxLen]) rfl
  have hB0 : Below w1.heap.size w1 (w1.alloc (.cells #[.int .u8 91] 5)) := (Below.refl _ _).alloc (Nat.le_refl _) _
  go_wp2_with fail
  rw [hrI, htI]
  clear hrI htI hrw hkw hdw hrw2 htw2
  go_loopw [7, 8] (fun bv iv wr => ∃ (i : Nat) (A : Option Addr) (c : Nat), i ≤ r + 1 ∧ iv = .int .i64 (i : Nat) ∧ bv = .slice A (1 + i * (t + 2)) c ∧ wr.ownsRow w1.heap.size 5 1 (.slice A (1 + i * (t + 2)) c) (1 + i * (t + 2)) (Lib.byteCells (toB ([91] ++ units7 (t + 1) i))) ∧ Below w1.heap.size w1 wr) (fun _ iv _ => r + 1 - (intOf iv).toNat)
  case atStart => exact ⟨0, some ⟨w1.heap.size, 0, none⟩, 1, by omega, rfl, by simp, by simp only [Nat.zero_mul, Nat.add_zero]; exact hown0, hB0⟩
  case round =>
    obtain ⟨i, A, c, hi, rfl, rfl, hown, hB⟩ := hrel
    have hsz := hB.size
    have hX1 : i * (t + 2) ≤ 4000 * 13 := Nat.mul_le_mul (by omega) (by omega)
    obtain ⟨X, hX⟩ : ∃ X, X = 1 + i * (t + 2) := ⟨_, rfl⟩
    have hXb : X ≤ 52001 := by omega
    rw [← hX] at hown ⊢
    rcases Nat.lt_or_ge i (r + 1) with hlt | hge
    · have hiI : (i : Int) < (r : Int) + 1 := by omega
      have HXN := hid (show 1 + (i + 1) * (t + 2) = X + (t + 1) + 1 by rw [hX, Nat.add_mul]; omega)
      have HUN := hid (show [91] ++ units7 (t + 1) (i + 1) = [91] ++ units7 (t + 1) i ++ List.replicate (t + 1) 55 ++ [44] by
        show [91] ++ (units7 (t + 1) i ++ (List.replicate (t + 1) 55 ++ [44])) = _
        rw [← List.append_assoc, ← List.append_assoc])
      have HREP := hid (fun j => (show [91] ++ units7 (t + 1) i ++ List.replicate (j + 1) 55 = ([91] ++ units7 (t + 1) i ++ List.replicate j 55) ++ [55] by rw [List.replicate_succ', ← List.append_assoc]))
      clear hX hX1
      generalize [91] ++ units7 (t + 1) i = U at *
      go_wp2_with fail
      go_loopw [7, 9] (fun bv jv wq => ∃ (j : Nat) (A : Option Addr) (c : Nat), j ≤ t + 1 ∧ jv = .int .i64 (j : Nat) ∧ bv = .slice A (X + j) c ∧ wq.ownsRow w1.heap.size 5 1 (.slice A (X + j) c) (X + j) (Lib.byteCells (toB (U ++ List.replicate j 55))) ∧ Below w1.heap.size w1 wq) (fun _ jv _ => t + 1 - (intOf jv).toNat)
      case atStart => exact ⟨0, A, c, by omega, rfl, rfl, by simpa using hown, hB⟩
      case round =>
        obtain ⟨j, Aj, cj, hj, rfl, rfl, hownj, hBj⟩ := hrel
        have hszj := hBj.size
        rcases Nat.lt_or_ge j (t + 1) with hltj | hgej
        · have hjI : (j : Int) < (t : Int) + 1 := by omega
          go_wp2_with (first
            | (at_builtin
               go_must (refine wpList_append_more _ rfl (.tmp 37) (.tmp 38) _ rfl w1.heap.size 5 i0 _ 1 Tryz.underlying24 hi0 iz0 iz1 iz2 rfl (.slice Aj (X + j) cj) (X + j) (Lib.byteCells (toB (U ++ List.replicate j 55))) rfl ?hown (some ⟨wr.heap.size, 0, none⟩) 1 1 [.int .u8 55] rfl ?hls rfl ?h1 ?h63 ?hby ?hbs _ rfl ?_)
               go_must (case hown => exact hownj.alloc _)
               go_must (case hls => exact lst_one _ _ _ _ rfl)
               go_must (case h1 => simp [Value.oneCell'])
               go_must (case h63 => simp only [maxLen]; omega)
               go_must (case hby => omega)
               go_must (case hbs => simp; omega)
               intro A2 c2 w2 hown2 hgr2 hat2))
          have hB2 : Below w1.heap.size w1 w2 := (hBj.alloc hszj _).grown hgr2 (by simp; omega) (fun k hk => (hownj.lt k hk).1)
          have hown3 : w2.ownsRow w1.heap.size 5 1 (.slice A2 (X + (j + 1)) c2) (X + (j + 1)) (Lib.byteCells (toB (U ++ List.replicate (j + 1) 55))) := by
            rw [HREP.out j, bytes_snoc _ 55 (by omega)]; exact hown2
          clear hown2 hgr2 hat2
          go_roundw
          case rel => exact ⟨j + 1, A2, c2, by omega, by go_num, rfl, hown3, hB2⟩
          case measure => simp [intOf]; omega
        · obtain rfl : j = t + 1 := by omega
          have hjI : ¬ (((t + 1 : Nat) : Int) < (t : Int) + 1) := by omega
          go_wp2_with (first
            | (at_builtin
               go_must (refine wpList_append_more _ rfl (.tmp 40) (.tmp 41) _ rfl w1.heap.size 5 i0 _ 1 Tryz.underlying24 hi0 iz0 iz1 iz2 rfl (.slice Aj (X + (t + 1)) cj) (X + (t + 1)) (Lib.byteCells (toB (U ++ List.replicate (t + 1) 55))) rfl ?hown (some ⟨wr.heap.size, 0, none⟩) 1 1 [.int .u8 44] rfl ?hls rfl ?h1 ?h63 ?hby ?hbs _ rfl ?_)
               go_must (case hown => exact hownj.alloc _)
               go_must (case hls => exact lst_one _ _ _ _ rfl)
               go_must (case h1 => simp [Value.oneCell'])
               go_must (case h63 => simp only [maxLen]; omega)
               go_must (case hby => omega)
               go_must (case hbs => simp; omega)
               intro A2 c2 w2 hown2 hgr2 hat2))
          have hB2 : Below w1.heap.size w1 w2 := (hBj.alloc hszj _).grown hgr2 (by simp; omega) (fun k hk => (hownj.lt k hk).1)
          have hown3 : w2.ownsRow w1.heap.size 5 1 (.slice A2 (1 + (i + 1) * (t + 2)) c2) (1 + (i + 1) * (t + 2)) (Lib.byteCells (toB ([91] ++ units7 (t + 1) (i + 1)))) := by
            rw [HXN.out, HUN.out, bytes_snoc _ 44 (by omega)]; exact hown2
          clear hown2 hgr2 hat2
          go_roundw
          case rel => exact ⟨i + 1, A2, c2, by omega, by go_num, by rw [HXN.out], hown3, hB2⟩
          case measure => simp [intOf]; omega
    · obtain rfl : i = r + 1 := by omega
      have hiI : ¬ (((r + 1 : Nat) : Int) < (r : Int) + 1) := by omega
      obtain ⟨ga, rfl⟩ : ∃ ga, A = some ⟨ga, 0, none⟩ := by
        rcases hown.2 with ⟨_, h2⟩ | ⟨ga, cap, cur, h1, _⟩
        · omega
        · simp only [Value.slice.injEq] at h1
          exact ⟨ga, h1.1⟩
      obtain ⟨Z, hZ⟩ : ∃ Z, Z = (r + 1) * (t + 2) := ⟨_, rfl⟩
      have hXZ : X = Z + 1 := by omega
      obtain ⟨H, hH⟩ : ∃ H, H = (r + 1) / 2 := ⟨_, rfl⟩
      obtain ⟨P, hP⟩ : ∃ P, P = H * (t + 2) := ⟨_, rfl⟩
      have hHr : H ≤ r := by omega
      have hPb : P ≤ 52000 := by rw [hP]; exact Nat.mul_le_mul (show H ≤ 4000 by omega) (show t + 2 ≤ 13 by omega)
      have hHI : ((r : Int) + 1) / 2 = (H : Int) := by omega
      have hPI : (H : Int) * ((t : Int) + 2) = (P : Int) := by rw [hP]; simp
      have hPI2 : (H : Int) * ((t : Int) + 1 + 1) = (P : Int) := by rw [show (t : Int) + 1 + 1 = (t : Int) + 2 from by omega]; exact hPI
      have hZb : Z ≤ 52000 := by omega
      have hst := hown.stored Z (.int .u8 ((93 : Nat) : Int))
      rw [bytes_set7 _ Z 93 (by omega)] at hst
      have hl7 : ([91] ++ units7 (t + 1) (r + 1)).set Z 93 = list7 (t + 1) r := by rw [hZ]; exact list7_set (t + 1) r
      rw [hl7] at hst
      have hnb : nb ⟨(toB (list7 (t + 1) r)).toArray⟩ = list7 (t + 1) r := nb_toB _ (list7_small _ _)
      have hlen : (toB (list7 (t + 1) r)).length = X := by rw [toB_length, list7_length, hXZ, hZ]
      have hst2 : (wr.setCell ⟨ga, Z, none⟩ (.int .u8 93)).ownsRow w1.heap.size 5 1 (.slice (some ⟨ga, 0, none⟩) X c) X (Lib.byteCells (toB (list7 (t + 1) r))) := hst.1
      have hcv := run_string_own (A := some ⟨ga, 0, none⟩) (c := c) (l := toB (list7 (t + 1) r)) (by rw [hlen]; exact hst2)
      rw [hlen] at hcv
      obtain ⟨S, hS⟩ : ∃ S : ByteArray, S = ⟨(toB (list7 (t + 1) r)).toArray⟩ := ⟨_, rfl⟩
      rw [← hS] at hnb hcv
      have hSs : S.size = Z + 1 := by rw [← nb_length, hnb, list7_length, hZ]
      have hga := (hown.lt ga rfl)
      have cw : ∃ u, wr.cell? ⟨ga, Z, none⟩ = some u := ⟨_, (hown.cellAt Z (by omega)).trans (List.getElem?_eq_getElem (by have := hown.1; omega))⟩
      obtain ⟨u, cw⟩ := cw
      have fw := hown.frozenAt Z
      have hBs : Below w1.heap.size w1 (wr.setCell ⟨ga, Z, none⟩ (.int .u8 93)) := hB.setCell (p := ⟨ga, Z, none⟩) hga.1 _
      have hpc : (places (nb S)).length = r + 2 := by rw [hnb, list7_count]
      have hpl : (nb S).length ≤ 65536 := by rw [nb_length]; omega
      have hlk : lookN (nb S) = 0 := by rw [hnb]; exact text_look (list7_text _ _ (by omega)) (by rw [← hnb]; exact hpl)
      have hbd : bndN (nb S) = Z + 1 := by unfold bndN; rw [if_neg (by omega), nb_length, hSs]
      have HM := hid (fun W => semiMake_ok S W hlk (by omega))
      have HK := hid (fun q W hW => (show Calls Tryz.prog 9 #[.pointer (some ⟨q, 0, none⟩)] W fun e w' => e = .returned (.int .i64 ((r : Int) + 2)) ∧ W = w' from by have := semiMarks_any q S W hW; rw [hpc] at this; exact this))
      have HI := hid (fun q W (hW : IdxAt W q S) (hT : Tab W) => (show Calls Tryz.prog 10 #[.pointer (some ⟨q, 0, none⟩), .int .i64 (H : Nat)] W fun e w' => e = .returned (.tuple #[.int .i64 (P : Nat), .int .i64 0]) ∧ Below W.heap.size W w' from by
        have h3 := list7_at (t + 1) r H (by omega)
        rw [← hnb] at h3
        obtain ⟨h4, h5⟩ := List.getElem?_eq_some_iff.1 h3
        have := semiMark_in q S H W hW hT hpl (by omega) h4
        rw [h5] at this
        rwa [show H * (t + 1 + 1) = P from hP.symm] at this))
      have HU := hid (fun q W hW => (show Calls Tryz.prog 11 #[.pointer (some ⟨q, 0, none⟩), .int .i64 ((Z : Int) + 1)] W fun e w' => e = .returned (.int .i64 ((r : Int) + 2)) ∧ Below W.heap.size W w' from by
        have := semiUnder_high q S ((Z : Int) + 1) W hW (by rw [hbd]; exact Int.le_refl _)
        rw [hpc] at this; exact this))
      have HZ := hid (fun q W hW => semiSize_any q S W hW hpl (by omega))
      have HN := hid (fun q W hW => semiNest_any q S W hW)
      have HO := hid (fun q W hW => (show Calls Tryz.prog 15 #[.pointer (some ⟨q, 0, none⟩)] W fun e w' => e = .returned (.int .i64 ((r : Int) + 2)) ∧ W = w' from by have := nNodes_any q (parens (nb S)) W hW; rw [text_nodes (by rw [hnb]; exact list7_text _ _ (by omega)), hpc] at this; exact this))
      have HBT := hid (fun W => (show Calls Tryz.prog 13 #[.int .i64 ((Z : Int) + 1), .int .i64 ((r : Int) + 2)] W fun e w' => ∃ k : Nat, e = .returned (.int .i64 (bits14 (r + 2) k : Nat)) ∧ Z + 1 ≤ (r + 2) * 2 ^ k ∧ W = w' from refBits14_any (Z + 1) (r + 2) W (by omega) (by omega) (by omega)))
      have HWI := hid (show ∀ z k : Nat, z ≤ szMax (nb S) → Z + 1 ≤ (r + 2) * 2 ^ k → z ≤ bits14 (r + 2) k from fun z k h1 h2 => by
        refine Nat.le_trans h1 (sz_within (r + 2) (Z + 1) k _ (by omega) (by omega) (by omega) h2 ?_)
        unfold szMax top
        rw [parens_length, ← places_length, hpc, hbd])
      have hH0 : H = 0 → P = 0 := fun h => by rw [hP, h, Nat.zero_mul]
      clear hst hst2 hown hown0 hl7 hnb hlen hS hpc hpl hlk hbd hP hH hZ hX hX1
      subst hXZ
      go_wp2_with (simp only [hcv])
      have hBm : Below w.heap.size w (wr.setCell ⟨ga, Z, none⟩ (.int .u8 93)) := hB1.trans (hBs.mono hz1)
      have hzm := hBm.size
      have hTm := hT.below hBm
      generalize wr.setCell ⟨ga, Z, none⟩ (.int .u8 93) = Wm at *
      clear hBs cw fw hcv hBa hB0 hB hB1
      refine (HM.out _).mono ?_
      rintro e w2 ⟨q, rfl, hq, hB2⟩
      have hBn := hBm.trans (hB2.mono hzm)
      have hT2 := hTm.below hB2
      have hr2 : (r : Int) + 1 + 1 = (r : Int) + 2 := by omega
      go_wp2_with fail
      refine (HK.out _ _ hq).mono ?_
      rintro e w' ⟨rfl, rfl⟩
      go_wp2_with fail
      refine (HI.out _ _ hq hT2).mono ?_
      rintro e w3 ⟨rfl, hB3⟩
      have hq3 := hq.below hB3
      have hBo := hBn.trans (hB3.mono hBn.size)
      rcases Nat.eq_zero_or_pos H with hH | hH
      · have hP0 := hH0 hH
        subst hH
        subst hP0
        go_wp2_with fail
        refine (HU.out _ _ hq3).mono ?_
        rintro e w4 ⟨rfl, hB4⟩
        have hq4 := hq3.below hB4
        have hBp := hBo.trans (hB4.mono hBo.size)
        go_wp2_with fail
        refine (HZ.out _ _ hq4).mono ?_
        rintro e w' ⟨z, rfl, hz, m1, rfl⟩
        go_wp2_with fail
        refine (HBT.out _).mono ?_
        rintro e w' ⟨k, rfl, hk, rfl⟩
        have hzk := HWI.out z k hz hk
        have hzkI : (z : Int) ≤ ((bits14 (r + 2) k : Nat) : Int) := by omega
        go_wp2_with fail
        refine (HN.out _ _ (by exact hq4)).mono ?_
        rintro e w' ⟨y, rfl, hy, rfl⟩
        go_wp2_with fail
        refine (HO.out _ _ hy).mono ?_
        rintro e w' ⟨rfl, rfl⟩
        go_wp2_with fail
        go_ret
        exact ⟨by first | rfl | simp, below_drewN hBp _⟩
      · have hHp : (0 : Int) < (H : Int) := by omega
        go_wp2_with fail
        refine (HU.out _ _ hq3).mono ?_
        rintro e w4 ⟨rfl, hB4⟩
        have hq4 := hq3.below hB4
        have hBp := hBo.trans (hB4.mono hBo.size)
        go_wp2_with fail
        refine (HZ.out _ _ hq4).mono ?_
        rintro e w' ⟨z, rfl, hz, m1, rfl⟩
        go_wp2_with fail
        refine (HBT.out _).mono ?_
        rintro e w' ⟨k, rfl, hk, rfl⟩
        have hzk := HWI.out z k hz hk
        have hzkI : (z : Int) ≤ ((bits14 (r + 2) k : Nat) : Int) := by omega
        go_wp2_with fail
        refine (HN.out _ _ (by exact hq4)).mono ?_
        rintro e w' ⟨y, rfl, hy, rfl⟩
        go_wp2_with fail
        refine (HO.out _ _ hy).mono ?_
        rintro e w' ⟨rfl, rfl⟩
        go_wp2_with fail
        go_ret
        exact ⟨by first | rfl | simp, below_drewN hBp _⟩
end Go.Proofs.YtacllonekidocaaGreatDoor
