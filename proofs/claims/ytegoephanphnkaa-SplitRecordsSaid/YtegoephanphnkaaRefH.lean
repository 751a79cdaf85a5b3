/- Walks: reference 09: do some bytes go on to a scalar's? -/
import Derived.Test.YtegoephanphnkaaRefG
import Derived.Test.YtegoephanphnkaaLawPart
import Derived.Test.YtegoephanphnkaaByts
import Derived.Test.YtegoephanphnkaaLScanD
import Derived.Deep.RegionLaw
set_option linter.unusedVariables false
set_option linter.unusedSimpArgs false
set_option maxRecDepth 100000
namespace Go.Proofs.Ytegoephanphnkaa
open Go.RowKit Go.Shelf L

/-- The two tables of part, and how far the world has gone. -/
def PInv (w0 : World) (gl gh : Nat) (wr : World) : Prop := Below w0.heap.size w0 wr ∧ BlkIs wr gl 5 #[.int .u8 128, .int .u8 160, .int .u8 144] ∧ BlkIs wr gh 5 #[.int .u8 191, .int .u8 159, .int .u8 143]
theorem PInv.below {w0 wr wr' : World} {gl gh : Nat} (h : PInv w0 gl gh wr) (hb : Below wr.heap.size wr wr') : PInv w0 gl gh wr' := ⟨h.1.trans (hb.mono h.1.size), h.2.1.below hb, h.2.2.below hb⟩
theorem PInv.low {w0 wr : World} {gl gh i : Nat} (h : PInv w0 gl gh wr) (hi : i < 3) : wr.cell? ⟨gl, i, none⟩ = some (.int .u8 (low3 i : Nat)) := by
  rw [h.2.1.cell i]
  have : i = 0 ∨ i = 1 ∨ i = 2 := by omega
  rcases this with rfl | rfl | rfl <;> rfl
theorem PInv.high {w0 wr : World} {gl gh i : Nat} (h : PInv w0 gl gh wr) (hi : i < 3) : wr.cell? ⟨gh, i, none⟩ = some (.int .u8 (high3 i : Nat)) := by
  rw [h.2.2.cell i]
  have : i = 0 ∨ i = 1 ∨ i = 2 := by omega
  rcases this with rfl | rfl | rfl <;> rfl

theorem PInv.above {w0 wr wr' : World} {gl gh : Nat} (h : PInv w0 gl gh wr) (hg : gl = w0.heap.size ∧ gh = w0.heap.size + 1) (hb : Below (gh + 1) wr wr') : PInv w0 gl gh wr' := ⟨h.1.trans (hb.mono (by omega)), h.2.1.kept (hb.block gl (by omega)), h.2.2.kept (hb.block gh (by omega))⟩
theorem PInv.size {w0 wr : World} {gl gh : Nat} (h : PInv w0 gl gh wr) : gh + 1 ≤ wr.heap.size := h.2.2.lt

def lenS (v : Value) : Nat := match v with | .slice _ n _ => n | _ => 0

set_option maxHeartbeats 8000000 in
theorem part_any (s : ByteArray) (w : World) (h1 : 1 ≤ s.size) (h3 : s.size ≤ 3) :
    Calls Try.prog 59 #[.string s] w fun e w' => ∃ ok, e = .returned (.bool ok) ∧ (ok = true ↔ AllAlive (nb s)) ∧ Below w.heap.size w w' := by
  obtain ⟨i0, hti, iz0, iz1, iz2⟩ := info_parts Try.infoU8
  have hll := nb_length s
  have HL := hid hll
  have hbyte : ∀ x ∈ nb s, x < 256 := fun x hx => by
    unfold nb at hx
    obtain ⟨y, _, rfl⟩ := List.mem_map.1 hx
    exact UInt8.toNat_lt y
  have HBY := hid hbyte
  clear hbyte
  have hP0 : PInv w w.heap.size (w.heap.size + 1) ((w.alloc (.cells #[.int .u8 128, .int .u8 160, .int .u8 144] 5)).alloc (.cells #[.int .u8 191, .int .u8 159, .int .u8 143] 5)) := by
    refine ⟨((Below.refl _ _).alloc (Nat.le_refl _) _).alloc (by simp) _, (BlkIs.new w _ _).alloc _, ?_⟩
    have := BlkIs.new (w.alloc (.cells #[.int .u8 128, .int .u8 160, .int .u8 144] 5)) 5 #[.int .u8 191, .int .u8 159, .int .u8 143]
    simpa using this
  go_enter Try.func59, Try.ntmps59
  go_wp2_with fail
  generalize hW0 : (w.alloc (.cells #[.int .u8 128, .int .u8 160, .int .u8 144] 5)).alloc (.cells #[.int .u8 191, .int .u8 159, .int .u8 143] 5) = W0 at *
  clear hW0
  obtain ⟨gl, hgl⟩ : ∃ gl, gl = w.heap.size := ⟨_, rfl⟩
  obtain ⟨gh, hgh⟩ : ∃ gh, gh = w.heap.size + 1 := ⟨_, rfl⟩
  rw [← hgh, ← hgl] at hP0
  rw [← hgh, ← hgl]
  have HG := hid (And.intro hgl hgh)
  clear hgl hgh
  go_loopw [5] (fun iv wr => ∃ i : Nat, iv = .int .i64 (i : Nat) ∧ i ≤ 3 ∧ PInv w gl gh wr ∧ No1 (nb s) i) (fun iv _ => 3 - (intOf iv).toNat)
  case atStart => exact ⟨0, rfl, by omega, hP0, No1.zero _⟩
  case round =>
    obtain ⟨i, rfl, hi, hP, hN⟩ := hrel
    clear hP0
    have HP := hid hP
    have HN := hid hN
    clear hP hN
    rcases Nat.lt_or_ge i 3 with hlt0 | hge
    · have hii : (i : Int) < 3 := by omega
      have hi0 : (0 : Int) ≤ (i : Int) := by omega
      have hiW := wrap_one i (by omega)
      go_wp2_with fail
      obtain ⟨wo, rfl⟩ : ∃ wo : World, wo = wr := ⟨_, rfl⟩
      go_loopw [6] (fun kv wr => ∃ k : Nat, kv = .int .i64 (k : Nat) ∧ k ≤ 3 ∧ PInv w gl gh wr ∧ No2 (nb s) i k) (fun kv _ => 3 - (intOf kv).toNat)
      case atStart => exact ⟨0, rfl, by omega, HP.out, HN.out.two⟩
      case round =>
        clear HP HN
        obtain ⟨k, rfl, hk, hP, hN⟩ := hrel
        have HP := hid hP
        have HN := hid hN
        clear hP hN
        rcases Nat.lt_or_ge k 3 with hlt | hge
        · have hki : (k : Int) < 3 := by omega
          have hkW := wrap_one k (by omega)
          have hsW := wrap_one s.size (by omega)
          go_wp2_with fail
          obtain ⟨wo2, rfl⟩ : ∃ wo2 : World, wo2 = wr := ⟨_, rfl⟩
          obtain ⟨m0, hm0⟩ : ∃ m0, m0 = s.size + 1 := ⟨_, rfl⟩
          have hm0I : (s.size : Int) + 1 = (m0 : Int) := by omega
          have hm0W : IntKind.i64.wrap (m0 : Int) = (m0 : Int) := by rw [IntKind.wrap_i64]; omega
          have HM0 := hid hm0
          clear hm0
          rw [hm0I]
          go_loopw [7] (fun mv wr => ∃ m : Nat, mv = .int .i64 (m : Nat) ∧ s.size < m ∧ m ≤ 5 ∧ PInv w gl gh wr ∧ No3 (nb s) i k m) (fun mv _ => 5 - (intOf mv).toNat)
          case atStart => exact ⟨m0, rfl, by rw [HM0.out]; omega, by rw [HM0.out]; omega, HP.out, by have := HN.out.three; rw [HL.out, ← HM0.out] at this; exact this⟩
          case round =>
            clear HP HN HM0 hm0I hm0W
            obtain ⟨m, rfl, hm1, hm5, hP, hN⟩ := hrel
            have HP := hid hP
            have HN := hid hN
            have hszr := hP.size
            clear hP hN
            rcases Nat.lt_or_ge m 5 with hlt | hge
            · have hmi : (m : Int) ≤ 4 := by omega
              have hmi2 : decide ((m : Int) ≤ 4) = true := decide_eq_true hmi
              have hmW := wrap_one m (by omega)
              obtain ⟨v0, w0, hcv, hbr, hbl⟩ := run_bytes_of (P := Try.prog) wr 9 32 s Try.underlying9 Try.underlying32 Try.underlying5 (gh + 1) hszr (by simp only [maxLen]; omega)
              go_wp2_with fail
              have hP2 := HP.out.below hbl
              have HP2 := hid hP2
              clear hP2 HP hbl
              have hbr0 : BRow w0 (gh + 1) v0 (exb (nb s) i k s.size) := by rw [← HL.out, exb_self]; exact hbr
              clear hbr hcv
              go_loopw [8] (fun tv wr => ∃ n : Nat, ∃ A c, tv = .slice A n c ∧ s.size ≤ n ∧ n ≤ m ∧ PInv w gl gh wr ∧ BRow wr (gh + 1) (.slice A n c) (exb (nb s) i k n)) (fun tv _ => 5 - lenS tv)
              case atStart =>
                obtain ⟨g, cap, hv, _⟩ := id hbr0
                rw [exb_length] at hv
                exact ⟨s.size, some ⟨g, 0, none⟩, cap, hv, by omega, by omega, HP2.out, by rw [← hv]; exact hbr0⟩
              case round =>
                clear hbr0 HP2
                obtain ⟨n, A, c, rfl, hn1, hn2, hP, hbr⟩ := hrel
                obtain ⟨g, cap, hv, hr2⟩ := id hbr
                rw [exb_length] at hv
                simp only [Value.slice.injEq, true_and] at hv
                obtain ⟨rfl, rfl⟩ := hv
                have hszr := hP.size
                have HP := hid hP
                have HBR := hid hbr
                clear hP hbr hr2
                rcases Nat.lt_or_ge n m with hlt2 | hge2
                · have hnmI : (n : Int) < (m : Int) := by omega
                  have hnmI2 : decide ((n : Int) < (m : Int)) = true := decide_eq_true hnmI
                  have HS := hid (exb_succ (nb s) i k n)
                  have HXL := hid (exb_length (nb s) i k n)
                  by_cases hn1' : n = 1
                  · have he1 : ((n : Int) == 1) = true := by rw [beq_iff_eq]; omega
                    have c1 := HP.out.low hlt0
                    have c2 := HP.out.high hlt0
                    have HE := hid (show exc (nb s) i k n = choice i k by unfold exc; rw [if_neg (by have := HL.out; omega), if_pos hn1'])
                    clear hn1'
                    rcases Nat.mod_two_eq_zero_or_one k with hk2 | hk2
                    · have hkT : (k : Int).tmod 2 = 0 := by rw [Int.tmod_eq_emod_of_nonneg (by omega)]; omega
                      have hkM : (k : Int) % 2 = 0 := by omega
                      have HC := hid (show choice i k = low3 i by unfold choice; rw [if_pos hk2])
                      clear hk2
                      go_wp2_with fail
                      go_region_law ((refine step_append_byte (by rfl) (.tmp 37) (.tmp 51) _ (by rfl) (gh + 1) i0 Try.underlying32 hti iz0 iz1 iz2 (.slice (some ⟨g, 0, none⟩) n c) (exb (nb s) i k n) (by rfl) (by exact (HBR.out.drew.alloc _).alloc _) ⟨wr.heap.size + 1, 0, none⟩ 1 (by rfl) (low3 i) (by simp) (by rw [HXL.out]; omega) (by simp; omega) ?_; intro v1 w1 hbr1 hb1))
                      all_goals go_simp
                      all_goals go_wp2_with fail
                      all_goals
                        obtain ⟨g1, c1', hv1, _⟩ := id hbr1
                        rw [List.length_append, HXL.out] at hv1
                        subst hv1
                        go_roundw
                        case rel => exact ⟨n + 1, some ⟨g1, 0, none⟩, c1', rfl, by omega, by omega, (HP.out.below ((((Below.refl _ _).alloc (Nat.le_refl _) _).alloc (by simp) _).drew)).above HG.out hb1, by rw [HS.out, HE.out, HC.out]; exact hbr1⟩
                        case measure => simp [lenS]; omega
                    · have hkT : (k : Int).tmod 2 = 1 := by rw [Int.tmod_eq_emod_of_nonneg (by omega)]; omega
                      have hkM : (k : Int) % 2 = 1 := by omega
                      have HC := hid (show choice i k = high3 i by unfold choice; rw [if_neg (by omega)])
                      clear hk2
                      go_wp2_with fail
                      go_region_law ((refine step_append_byte (by rfl) (.tmp 37) (.tmp 51) _ (by rfl) (gh + 1) i0 Try.underlying32 hti iz0 iz1 iz2 (.slice (some ⟨g, 0, none⟩) n c) (exb (nb s) i k n) (by rfl) (by exact (HBR.out.drew.alloc _).alloc _) ⟨wr.heap.size + 1, 0, none⟩ 1 (by rfl) (high3 i) (by simp) (by rw [HXL.out]; omega) (by simp; omega) ?_; intro v1 w1 hbr1 hb1))
                      all_goals go_simp
                      all_goals go_wp2_with fail
                      all_goals
                        obtain ⟨g1, c1', hv1, _⟩ := id hbr1
                        rw [List.length_append, HXL.out] at hv1
                        subst hv1
                        go_roundw
                        case rel => exact ⟨n + 1, some ⟨g1, 0, none⟩, c1', rfl, by omega, by omega, (HP.out.below ((((Below.refl _ _).alloc (Nat.le_refl _) _).alloc (by simp) _).drew)).above HG.out hb1, by rw [HS.out, HE.out, HC.out]; exact hbr1⟩
                        case measure => simp [lenS]; omega
                  · have he1 : ((n : Int) == 1) = false := by rw [beq_eq_false_iff_ne]; omega
                    have HE := hid (show exc (nb s) i k n = 128 by unfold exc; rw [if_neg (by have := HL.out; omega), if_neg hn1'])
                    have hpb := HP.out
                    have HB0 := hid (fun W (hW : Below w.heap.size wr W) (hs : wr.heap.size ≤ W.heap.size) => hW)
                    clear hpb
                    go_wp2_with (at_builtin
                                 go_must (refine wpList_append_byte rfl (.tmp 53) (.tmp 54) _ rfl (gh + 1) i0 Try.underlying32 hti iz0 iz1 iz2 (.slice (some ⟨g, 0, none⟩) n c) (exb (nb s) i k n) rfl ?hbr ⟨wr.heap.size, 0, none⟩ 1 rfl 128 ?hc ?hl ?hb ?_)
                                 go_must (case hbr => exact HBR.out.alloc _)
                                 go_must (case hc => simp)
                                 go_must (case hl => rw [HXL.out]; omega)
                                 go_must (case hb => simp; omega)
                                 intro v1 w1 hbr1 hb1)
                    obtain ⟨g1, c1', hv1, _⟩ := id hbr1
                    rw [List.length_append, HXL.out] at hv1
                    subst hv1
                    go_roundw
                    case rel => exact ⟨n + 1, some ⟨g1, 0, none⟩, c1', rfl, by omega, by omega, (HP.out.below ((Below.refl _ _).alloc (Nat.le_refl _) _)).above HG.out hb1, by rw [HS.out, HE.out]; exact hbr1⟩
                    case measure => simp [lenS]; omega
                · obtain rfl : n = m := by omega
                  have HX := hid (nb_bytes (exb (nb s) i k n) (exb_lt HBY.out i k n))
                  have hcv := run_string_of (P := Try.prog) HBR.out 32 9 Try.underlying32 Try.underlying5 Try.underlying9
                  obtain ⟨S, hS⟩ : ∃ S : ByteArray, S = ⟨((exb (nb s) i k n).map Nat.toUInt8).toArray⟩ := ⟨_, rfl⟩
                  rw [← hS] at hcv HX
                  have HSZ := hid (show S.size ≤ 65536 by have := nb_length S; rw [HX.out, exb_length] at this; omega)
                  have HSC := hid (fun W => scalar_any S W HSZ.out)
                  clear hS
                  go_wp2_with fail
                  refine (HSC.out _).mono ?_
                  rintro e w2 ⟨c2, rfl, hb2⟩
                  rw [HX.out]
                  have hP3 := HP.out.below hb2
                  by_cases hh : scN (exb (nb s) i k n) = n
                  · have HA := hid (hit_alive (by rw [HL.out]; exact hm1) hh)
                    have hhI : (((scN (exb (nb s) i k n) : Nat) : Int) == (n : Int)) = true := by rw [beq_iff_eq]; omega
                    generalize scN (exb (nb s) i k n) = x at *
                    clear hh
                    go_wp2_with fail
                    go_ret
                    exact ⟨true, rfl, ⟨fun _ => HA.out, fun _ => rfl⟩, hP3.1⟩
                  · have HN2 := hid (HN.out.step hh)
                    have hhI : (((scN (exb (nb s) i k n) : Nat) : Int) == (n : Int)) = false := by rw [beq_eq_false_iff_ne]; omega
                    generalize scN (exb (nb s) i k n) = x at *
                    clear hh
                    go_wp2_with fail
                    go_roundw
                    case rel => exact ⟨n + 1, by go_num, by omega, by omega, hP3, HN2.out⟩
                    case measure => simp [intOf]; omega
            · obtain rfl : m = 5 := by omega
              have HN2 := hid (HN.out.two (by omega))
              go_wp2_with fail
              go_roundw
              case rel => exact ⟨k + 1, by go_num, by omega, HP.out, HN2.out⟩
              case measure => simp [intOf]; omega
        · obtain rfl : k = 3 := by omega
          have HN2 := hid HN.out.one
          go_wp2_with fail
          go_roundw
          case rel => exact ⟨i + 1, by go_num, by omega, HP.out, HN2.out⟩
          case measure => simp [intOf]; omega
    · obtain rfl : i = 3 := by omega
      have HA := hid (HN.out.all (by rw [HL.out]; exact h1) (by rw [HL.out]; exact h3))
      go_wp2_with fail
      go_ret
      exact ⟨false, rfl, ⟨(fun h => by cases h), (fun h => absurd h HA.out)⟩, HP.out.1⟩

end Go.Proofs.Ytegoephanphnkaa
