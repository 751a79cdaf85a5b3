/- Proof text. -/
import Derived.Test.YtgpbpgpolpakjaaGreatDoorSemiF
import Derived.Test.YtgpbpgpolpakjaaGreatDoorFanoQ
import Derived.Test.YtgpbpgpolpakjaaGreatDoorBitsP
import Derived.Test.YtgpbpgpolpakjaaGreatDoorRefFano
import Derived.Test.YtgpbpgpolpakjaaGreatDoorSemiP
import Derived.Test.YtgpbpgpolpakjaaGreatDoorRefS
set_option maxHeartbeats 2000000
set_option linter.unusedVariables false
set_option linter.unusedSimpArgs false
set_option maxRecDepth 100000
namespace Go.Proofs.YtgpbpgpolpakjaaGreatDoor
open Go.RowKit Go.Shelf L
theorem zty (n : Nat) : (madeCells (Value.int .u8 0).cells (n * 1)).toList = Lib.byteCells (List.replicate n 0) := by
 have e : (Value.int .u8 0).cells = #[.int .u8 0] := rfl
 rw [e, Nat.mul_one]
 unfold madeCells Lib.byteCells
 apply List.ext_getElem
 ·simp
 ·intro i h1 h2
  simp [Nat.mod_one]
theorem zpb (n : Nat) (w : World) (hn : n < 9223372036854775808) :
  Calls Tryz.prog 37 #[.int .i64 (n : Nat)] w fun e w' => e = .returned (.string ⟨(leB n 8).toArray⟩) ∧ Below w.heap.size w w' := by
 obtain ⟨i0, hi0, iz0, iz1, iz2⟩ := info_parts Tryz.infoU8
 have hB00 : Below w.heap.size w w := Below.refl _ _
 go_enter Tryz.func37, Tryz.ntmps37
 go_wp2_with (first
  | (at_make
     go_must (refine wpList_make_full _ rfl (.const (.int .i64 8)) (.const (.int .i64 8)) _ rfl w.heap.size 5 i0 (.int .u8 0) 1 Tryz.underlying117 hi0 iz0 iz1 .i64 .i64 _ _ 8 rfl rfl rfl rfl (by rw [iz2]; omega) (by unfold maxLen; omega) (Nat.le_refl _) ?_)
     intro w3 hown3 hgr3))
 have hB3 : Below w.heap.size w w3 := hB00.grown hgr3 (Nat.le_refl _) (fun k hk => by cases hk)
 have hrep : (madeCells (Value.int .u8 0).cells (8 * 1)).toList = Lib.byteCells (leB n 0 ++ List.replicate 8 0) := zty 8
 rw [hrep] at hown3
 clear hgr3 hrep
 go_wp2_with fail
 go_loopw [8] (fun iv wr => ∃ k : Nat, k ≤ 8 ∧ iv = .int .i64 (k : Nat) ∧ wr.ownsRow w.heap.size 5 1 (.slice (some ⟨w.heap.size, 0, none⟩) 8 8) 8 (Lib.byteCells (leB n k ++ List.replicate (8 - k) 0)) ∧ Below w.heap.size w wr) (fun iv _ => 8 - (intOf iv).toNat)
 case atStart => exact ⟨0, by omega, rfl, hown3, hB3⟩
 case round =>
  obtain ⟨k, hk, rfl, hown, hB⟩ := hrel
  clear hown3 hB3
  rcases Nat.lt_or_ge k 8 with hlt | hge
  ·have hkI : (k : Int) < 8 := by omega
   have hk0 : (0 : Int) ≤ (k : Int) := by omega
   have hst := hown.stored k (.int .u8 ((n : Int) / 2 ^ (8 * k) % 256))
   have hlist : (Lib.byteCells (leB n k ++ List.replicate (8 - k) 0)).set k (.int .u8 ((n : Int) / 2 ^ (8 * k) % 256)) = Lib.byteCells (leB n (k + 1) ++ List.replicate (8 - (k + 1)) 0) := by
    rw [zfr, byteCells_append, byteCells_append, byteCells_append, List.set_append_right _ _ (by rw [Lib.byteCells_length, ze]; exact Nat.le_refl _), Lib.byteCells_length, ze, Nat.sub_self, show 8 - k = (8 - (k + 1)) + 1 from by omega, List.replicate_succ, byteCells_one, show (256 : Nat) ^ k = 2 ^ (8 * k) from by rw [Nat.pow_mul]]
    show Lib.byteCells (leB n k) ++ (Value.int .u8 ((n : Int) / 2 ^ (8 * k) % 256) :: Lib.byteCells (List.replicate (8 - (k + 1)) 0)) = Lib.byteCells (leB n k) ++ [Value.int .u8 ((n / 2 ^ (8 * k) % 256 : Nat) : Int)] ++ Lib.byteCells (List.replicate (8 - (k + 1)) 0)
    have ev : ((n / 2 ^ (8 * k) % 256 : Nat) : Int) = (n : Int) / 2 ^ (8 * k) % 256 := by simp
    rw [List.append_assoc, ev]; rfl
   rw [hlist] at hst
   obtain ⟨u, cw⟩ : ∃ u, wr.cell? ⟨w.heap.size, k, none⟩ = some u := ⟨_, (hown.cellAt k (by omega)).trans (List.getElem?_eq_getElem (by have := hown.1; omega))⟩
   have fw := hown.frozenAt k
   have hBs : Below w.heap.size w (wr.setCell ⟨w.heap.size, k, none⟩ (.int .u8 ((n : Int) / 2 ^ (8 * k) % 256))) := hB.setCell (Nat.le_refl _) _
   have ho := hid hst.1
   clear hst hlist hown
   go_wp2_with fail
   go_roundw
   case rel => exact ⟨k + 1, by omega, by go_num, ho.out, hBs⟩
   case measure => simp [intOf]; omega
  ·obtain rfl : k = 8 := by omega
   have hown8 : wr.ownsRow w.heap.size 5 1 (.slice (some ⟨w.heap.size, 0, none⟩) 8 8) 8 (Lib.byteCells (leB n 8)) := by simpa using hown
   have hcv : (convert 117 9 (.slice (some ⟨w.heap.size, 0, none⟩) 8 8)).run Tryz.prog wr = .ok (.string ⟨(leB n 8).toArray⟩) wr := by
    have := zdf (l := leB n 8) (by rw [ze]; exact hown8)
    rwa [ze] at this
   go_wp2_with (simp only [hcv])
   go_ret
   exact ⟨rfl, hB⟩
theorem zpc (v : Nat) (w : World) (hv : v < 9223372036854775808) :
  Calls Tryz.prog 48 #[.int .i64 (v : Nat)] w fun e w' => e = .returned (.string ⟨(leB v 8).toArray⟩) ∧ Below w.heap.size w w' := by
 obtain ⟨i0, hi, hz0, hz1, hz2⟩ := info_parts Tryz.infoU8
 go_enter Tryz.func48, Tryz.ntmps48
 go_wp2_with fail
 go_loopw [3, 4] (fun out i wr => ∃ (k : Nat) (A : Option Addr) (c : Nat), k ≤ 8 ∧ i = .int .i64 k ∧ out = .slice A k c ∧ wr.ownsRow w.heap.size 5 1 (.slice A k c) k (Lib.byteCells (leB v k)) ∧ Below w.heap.size w wr) (fun _ i _ => 8 - (intOf i).toNat)
 case atStart => exact ⟨0, none, 0, by omega, rfl, rfl, World.ownsRow_nil _ _ _ _, Below.refl _ _⟩
 case round =>
  obtain ⟨k, A, c, hk, rfl, rfl, hown, hB⟩ := hrel
  have hsz := hB.size
  rcases Nat.lt_or_ge k 8 with hlt | hge
  ·have hlti : (k : Int) < 8 := by omega
   have H1 := hid (show Lib.byteCells (leB v k) ++ [.int .u8 ((v : Int) / 2 ^ (8 * k) % 256)] = Lib.byteCells (leB v (k + 1)) by
    rw [zfr, byteCells_append, byteCells_one, show (256 : Nat) ^ k = 2 ^ (8 * k) from by rw [Nat.pow_mul]]; simp)
   go_wp2_with (at_builtin
                go_must (refine zaa _ rfl (.tmp 9) (.tmp 15) _ rfl w.heap.size 5 i0 _ 1 Tryz.underlying117 hi hz0 hz1 hz2 rfl (.slice A k c) k (Lib.byteCells (leB v k)) rfl ?hown (some ⟨wr.heap.size, 0, none⟩) 1 1 [.int .u8 ((v : Int) / 2 ^ (8 * k) % 256)] rfl ?hls rfl ?h1 ?h63 ?hby ?hbs _ rfl ?_)
                go_must (case hown => exact hown.alloc _)
                go_must (case hls => exact zc3 _ _ _ _ rfl)
                go_must (case h1 => simp [Value.oneCell'])
                go_must (case h63 => simp only [maxLen]; omega)
                go_must (case hby => omega)
                go_must (case hbs => simp; omega)
                intro A2 c2 w2 hown2 hgr2 hat2)
   have hB2 : Below w.heap.size w w2 := (hB.alloc hsz _).grown hgr2 (by simp; omega) (fun j hj => (hown.lt j hj).1)
   rw [H1.out] at hown2
   clear hgr2 hat2
   go_roundw
   case rel => exact ⟨k + 1, A2, c2, by omega, by go_num, rfl, hown2, hB2⟩
   case measure => simp [intOf]; omega
  ·obtain rfl : k = 8 := by omega
   have hcv : (convert 117 9 (.slice A 8 c)).run Tryz.prog wr = .ok (.string ⟨(leB v 8).toArray⟩) wr := by
    have := zdf (l := leB v 8) (by rw [ze]; exact hown)
    rwa [ze] at this
   go_wp2
   go_ret
   exact ⟨rfl, hB⟩
theorem zez (s : ByteArray) (w : World) (hs : s.size ≤ 4096) :
  Calls Tryz.prog 46 #[.string s] w fun e w' => ∃ A c, e = .returned (.slice A (places (nb s)).length c) ∧ Lst w' A (zz (places (nb s))) ∧ Below w.heap.size w w' := by
 obtain ⟨i0, hi0, iz0, iz1, iz2⟩ := info_parts Tryz.infoInt
 have HL := hid (zf s)
 have HN := hid (fun W => zvg s W hs)
 have HS := hid (fun k => zxv (nb s) k)
 have HA := hid (show zfl (nb s) s.size = places (nb s) from by rw [← zf]; exact zzx (nb s))
 have HLN := hid (fun k => zsy (nb s) k)
 have HPI := hid (fun c W => z0c c W)
 go_enter Tryz.func46, Tryz.ntmps46
 go_wp2_with fail
 refine (HN.out _).mono ?_
 rintro e w1 ⟨A, c, rfl, hin, hB1⟩
 have hz1 := hB1.size
 have hl1 := zbw hin
 clear hin
 go_wp2_with fail
 go_loopw [4, 5] (fun ov iv wr => ∃ (k : Nat) (Ao : Option Addr) (co : Nat), k ≤ s.size ∧ iv = .int .i64 (k : Nat) ∧ ov = .slice Ao (zfl (nb s) k).length co ∧ wr.ownsRow w1.heap.size 3 1 (.slice Ao (zfl (nb s) k).length co) (zfl (nb s) k).length (zz (zfl (nb s) k)) ∧ Below w1.heap.size w1 wr) (fun _ iv _ => s.size - (intOf iv).toNat)
 case atStart => exact ⟨0, none, 0, Nat.zero_le _, rfl, rfl, World.ownsRow_nil _ _ _ _, Below.refl _ _⟩
 case round =>
  obtain ⟨k, Ao, co, hk, rfl, rfl, hown, hB⟩ := hrel
  have hsz := hB.size
  rcases Nat.lt_or_ge k s.size with h | h
  ·have hkI : (k : Int) < (s.size : Int) := by omega
   have hk0 : (0 : Int) ≤ (k : Int) := by omega
   have hat := zaz s k h
   have hlt := UInt8.toNat_lt s[k]
   have HSK := hid (HS.out k)
   rw [hat] at HSK
   have hq : (bools ((List.range s.size).map (insB (nb s))))[k]? = some (.bool (insB (nb s) k)) := by
    unfold bools
    rw [List.getElem?_map, List.getElem?_map, List.getElem?_range h]; rfl
   obtain ⟨ad, rfl, hcl⟩ := (hl1.below hB) k _ hq
   have HP1 := hid (HPI.out (s[k]).toNat)
   have hpk := HLN.out k
   generalize zfl (nb s) k = F at *
   clear hq
   cases hb : insB (nb s) k with
   | true =>
     rw [hb] at hcl HSK
     clear hb hat
     go_wp2_with fail
     exact ⟨⟨k + 1, Ao, co, by omega, by go_num, by rw [HSK.out]; simp, by rw [HSK.out]; simpa using hown, hB⟩, by simp [intOf]; omega⟩
   | false =>
     rw [hb] at hcl HSK
     clear hb hat
     cases hm : isM (s[k]).toNat with
     | false =>
       rw [hm] at HP1 HSK
       clear hm
       go_wp2_with fail
       refine (HP1.out _).mono ?_
       rintro e w' ⟨rfl, rfl⟩
       go_wp2_with fail
       exact ⟨⟨k + 1, Ao, co, by omega, by go_num, by rw [HSK.out]; simp, by rw [HSK.out]; simpa using hown, hB⟩, by simp [intOf]; omega⟩
     | true =>
       rw [hm] at HP1 HSK
       clear hm
       go_wp2_with fail
       refine (HP1.out _).mono ?_
       rintro e w' ⟨rfl, rfl⟩
       go_wp2_with (first
        | (at_builtin
           go_must (refine zaa _ rfl (.tmp 25) (.tmp 27) _ rfl w1.heap.size 3 i0 _ 8 Tryz.underlying52 hi0 iz0 iz1 iz2 rfl (.slice Ao F.length co) F.length (zz F) rfl ?hown (some ⟨wr.heap.size, 0, none⟩) 1 1 [.int .i64 (k : Nat)] rfl ?hls rfl ?h1 ?h63 ?hby ?hbs _ rfl ?_)
           go_must (case hown => exact hown.alloc _)
           go_must (case hls => exact zc3 _ _ _ _ rfl)
           go_must (case h1 => simp [Value.oneCell'])
           go_must (case h63 => simp only [maxLen]; omega)
           go_must (case hby => omega)
           go_must (case hbs => simp; omega)
           intro A2 c2 w2 hown2 hgr2 hat2))
       have hB2 : Below w1.heap.size w1 w2 := (hB.alloc hsz _).grown hgr2 (by simp; omega) (fun j hj => (hown.lt j hj).1)
       go_roundw
       case rel => exact ⟨k + 1, A2, c2, by omega, by go_num, by rw [HSK.out]; simp, by rw [HSK.out]; rw [show (if (!false && true) = true then [k] else []) = [k] from rfl, zfk, List.length_append]; exact hown2, hB2⟩
       case measure => simp [intOf]; omega
  ·obtain rfl : k = s.size := by omega
   have hkI : ¬ ((s.size : Int) < (s.size : Int)) := by omega
   rw [HA.out] at hown
   go_wp2_with fail
   go_ret
   exact ⟨Ao, ⟨co, by rw [← HA.out]; rfl⟩, zbw hown, hB1.trans (hB.mono hz1)⟩
def L.zdg (l PL : List Nat) (k : Nat) : List Bool := (PL.take k).flatMap fun p => zbc (at_ l p)
theorem L.zrc (l PL : List Nat) (k : Nat) : (zdg l PL k).length = 2 * (PL.take k).length := by
 unfold zdg
 induction PL.take k with
 | nil => rfl
 | cons x m ih => rw [List.flatMap_cons, List.length_append, ih, zkh, List.length_cons]; omega
theorem zjm (s : ByteArray) (w : World) (hs : s.size ≤ 4096) :
  Calls Tryz.prog 50 #[.string s] w fun e w' => ∃ A c, e = .returned (.slice A (zl (nb s)).length c) ∧ Lst w' A (bools (zl (nb s))) ∧ Below w.heap.size w w' := by
 obtain ⟨i0, hi0, iz0, iz1, iz2⟩ := info_parts Tryz.infoBool
 have HN := hid (fun W => zez s W hs)
 go_enter Tryz.func50, Tryz.ntmps50
 go_wp2_with fail
 refine (HN.out _).mono ?_
 rintro e w1 ⟨A, c, rfl, hl1, hB1⟩
 have hz1 := hB1.size
 go_wp2_with fail
 have HPL := hid (fun p (h : p ∈ places (nb s)) => (show p < s.size ∧ isM (at_ (nb s) p) = true from by
  have h1 := zki _ p h
  rw [zf] at h1
  rw [zjk] at h
  have h2 := (List.mem_filter.1 h).2
  simp only [Bool.and_eq_true] at h2
  exact ⟨h1, h2.2⟩))
 have HFIN := hid (show zdg (nb s) (places (nb s)) (places (nb s)).length = zl (nb s) from by unfold zdg; rw [List.take_length, zq7])
 have hPs : (places (nb s)).length ≤ 4096 := by rw [zah]; have := zbg (nb s); rw [zf] at this; omega
 generalize places (nb s) = PL at *
 go_loopw [3, 5] (fun ov iv wr => ∃ (k : Nat) (Ao : Option Addr) (co : Nat), k ≤ PL.length ∧ iv = .int .i64 (k : Nat) ∧ ov = .slice Ao (zdg (nb s) PL k).length co ∧ wr.ownsRow w1.heap.size 4 1 (.slice Ao (zdg (nb s) PL k).length co) (zdg (nb s) PL k).length (bools (zdg (nb s) PL k)) ∧ Below w1.heap.size w1 wr) (fun _ iv _ => PL.length - (intOf iv).toNat)
 case atStart => exact ⟨0, none, 0, Nat.zero_le _, rfl, rfl, World.ownsRow_nil _ _ _ _, Below.refl _ _⟩
 case round =>
  obtain ⟨k, Ao, co, hk, rfl, rfl, hown, hB⟩ := hrel
  have hsz := hB.size
  rcases Nat.lt_or_ge k PL.length with h | h
  ·have hkI : (k : Int) < (PL.length : Int) := by omega
   have hk0 : (0 : Int) ≤ (k : Int) := by omega
   obtain ⟨hps, hpm⟩ := HPL.out PL[k] (List.getElem_mem h)
   have hq : (zz PL)[k]? = some (.int .i64 (PL[k] : Nat)) := zg8 (List.getElem?_eq_getElem h)
   obtain ⟨ad, rfl, hcl⟩ := (hl1.below hB) k _ hq
   have HSK := hid (show zdg (nb s) PL (k + 1) = zdg (nb s) PL k ++ zbc (at_ (nb s) PL[k]) from by unfold zdg; rw [List.take_succ_eq_append_getElem h, List.flatMap_append]; simp)
   have HFL := hid (show (zdg (nb s) PL k).length ≤ 2 * k from by
    rw [zrc, List.length_take]; omega)
   obtain ⟨p, hp⟩ : ∃ p, p = PL[k] := ⟨_, rfl⟩
   rw [← hp] at hps hpm hcl HSK
   have hat := zaz s p hps
   rw [hat] at hpm HSK
   have hpI : (p : Int) < (s.size : Int) := by omega
   have hp0 : (0 : Int) ≤ (p : Int) := by omega
   have hFl := HFL.out
   clear hq hp hat
   generalize zdg (nb s) PL k = F at *
   have hs6 : (s[p]).toNat = 91 ∨ (s[p]).toNat = 93 ∨ (s[p]).toNat = 123 ∨ (s[p]).toNat = 125 ∨ (s[p]).toNat = 58 ∨ (s[p]).toNat = 44 := by
    unfold isM at hpm
    simp only [Bool.or_eq_true, beq_iff_eq] at hpm
    omega
   clear hpm
   rcases hs6 with hc | hc | hc | hc | hc | hc
   ·have n91 : (((s[p]).toNat : Int) == 91) = true := by rw [beq_iff_eq]; omega
    have n123 : (((s[p]).toNat : Int) == 123) = false := by rw [beq_eq_false_iff_ne]; omega
    have n58 : (((s[p]).toNat : Int) == 58) = false := by rw [beq_eq_false_iff_ne]; omega
    have n44 : (((s[p]).toNat : Int) == 44) = false := by rw [beq_eq_false_iff_ne]; omega
    have HB2 := hid (show zbc (s[p]).toNat = [true, true] from by rw [hc]; rfl)
    clear hc
    go_wp2_with (first
     | (at_builtin
        go_must (refine wpList_append_own_at _ rfl (.tmp 28) (.tmp 39) 31 rfl w1.heap.size 4 i0 _ 1 1 Tryz.underlying31 hi0 iz0 iz1 iz2 rfl (by decide) (.slice Ao F.length co) F.length _ rfl (hown.alloc _) ⟨wr.heap.size, 0, none⟩ 2 2 [.bool true, .bool true] rfl rfl (zch _ _ _ _ _ rfl) ?hone ?h63 ?hby ?hbs ?_)
        go_must (case hone => simp [Value.oneCell'])
        go_must (case h63 => simp only [maxLen]; omega)
        go_must (case hby => omega)
        go_must (case hbs => simp; omega)
        intro v4 w4 hown4 hgr4 _ hat4))
    obtain ⟨A4, c4, rfl⟩ := zam hown4
    have hB4 : Below w1.heap.size w1 w4 := (hB.alloc hsz _).grown hgr4 (by simp; omega) (fun j hj => (hown.lt j hj).1)
    go_roundw
    case rel => exact ⟨k + 1, A4, c4, by omega, by go_num, by rw [HSK.out, HB2.out]; simp, by rw [HSK.out, HB2.out, zaj, List.length_append]; exact hown4, hB4⟩
    case measure => simp [intOf]; omega
   ·have n91 : (((s[p]).toNat : Int) == 91) = false := by rw [beq_eq_false_iff_ne]; omega
    have n123 : (((s[p]).toNat : Int) == 123) = false := by rw [beq_eq_false_iff_ne]; omega
    have n58 : (((s[p]).toNat : Int) == 58) = false := by rw [beq_eq_false_iff_ne]; omega
    have n44 : (((s[p]).toNat : Int) == 44) = false := by rw [beq_eq_false_iff_ne]; omega
    have HB2 := hid (show zbc (s[p]).toNat = [false, false] from by rw [hc]; rfl)
    clear hc
    go_wp2_with (first
     | (at_builtin
        go_must (refine wpList_append_own_at _ rfl (.tmp 28) (.tmp 39) 31 rfl w1.heap.size 4 i0 _ 1 1 Tryz.underlying31 hi0 iz0 iz1 iz2 rfl (by decide) (.slice Ao F.length co) F.length _ rfl (hown.alloc _) ⟨wr.heap.size, 0, none⟩ 2 2 [.bool false, .bool false] rfl rfl (zch _ _ _ _ _ rfl) ?hone ?h63 ?hby ?hbs ?_)
        go_must (case hone => simp [Value.oneCell'])
        go_must (case h63 => simp only [maxLen]; omega)
        go_must (case hby => omega)
        go_must (case hbs => simp; omega)
        intro v4 w4 hown4 hgr4 _ hat4))
    obtain ⟨A4, c4, rfl⟩ := zam hown4
    have hB4 : Below w1.heap.size w1 w4 := (hB.alloc hsz _).grown hgr4 (by simp; omega) (fun j hj => (hown.lt j hj).1)
    go_roundw
    case rel => exact ⟨k + 1, A4, c4, by omega, by go_num, by rw [HSK.out, HB2.out]; simp, by rw [HSK.out, HB2.out, zaj, List.length_append]; exact hown4, hB4⟩
    case measure => simp [intOf]; omega
   ·have n91 : (((s[p]).toNat : Int) == 91) = false := by rw [beq_eq_false_iff_ne]; omega
    have n123 : (((s[p]).toNat : Int) == 123) = true := by rw [beq_iff_eq]; omega
    have n58 : (((s[p]).toNat : Int) == 58) = false := by rw [beq_eq_false_iff_ne]; omega
    have n44 : (((s[p]).toNat : Int) == 44) = false := by rw [beq_eq_false_iff_ne]; omega
    have HB2 := hid (show zbc (s[p]).toNat = [true, true] from by rw [hc]; rfl)
    clear hc
    go_wp2_with (first
     | (at_builtin
        go_must (refine wpList_append_own_at _ rfl (.tmp 28) (.tmp 39) 31 rfl w1.heap.size 4 i0 _ 1 1 Tryz.underlying31 hi0 iz0 iz1 iz2 rfl (by decide) (.slice Ao F.length co) F.length _ rfl (hown.alloc _) ⟨wr.heap.size, 0, none⟩ 2 2 [.bool true, .bool true] rfl rfl (zch _ _ _ _ _ rfl) ?hone ?h63 ?hby ?hbs ?_)
        go_must (case hone => simp [Value.oneCell'])
        go_must (case h63 => simp only [maxLen]; omega)
        go_must (case hby => omega)
        go_must (case hbs => simp; omega)
        intro v4 w4 hown4 hgr4 _ hat4))
    obtain ⟨A4, c4, rfl⟩ := zam hown4
    have hB4 : Below w1.heap.size w1 w4 := (hB.alloc hsz _).grown hgr4 (by simp; omega) (fun j hj => (hown.lt j hj).1)
    go_roundw
    case rel => exact ⟨k + 1, A4, c4, by omega, by go_num, by rw [HSK.out, HB2.out]; simp, by rw [HSK.out, HB2.out, zaj, List.length_append]; exact hown4, hB4⟩
    case measure => simp [intOf]; omega
   ·have n91 : (((s[p]).toNat : Int) == 91) = false := by rw [beq_eq_false_iff_ne]; omega
    have n123 : (((s[p]).toNat : Int) == 123) = false := by rw [beq_eq_false_iff_ne]; omega
    have n58 : (((s[p]).toNat : Int) == 58) = false := by rw [beq_eq_false_iff_ne]; omega
    have n44 : (((s[p]).toNat : Int) == 44) = false := by rw [beq_eq_false_iff_ne]; omega
    have HB2 := hid (show zbc (s[p]).toNat = [false, false] from by rw [hc]; rfl)
    clear hc
    go_wp2_with (first
     | (at_builtin
        go_must (refine wpList_append_own_at _ rfl (.tmp 28) (.tmp 39) 31 rfl w1.heap.size 4 i0 _ 1 1 Tryz.underlying31 hi0 iz0 iz1 iz2 rfl (by decide) (.slice Ao F.length co) F.length _ rfl (hown.alloc _) ⟨wr.heap.size, 0, none⟩ 2 2 [.bool false, .bool false] rfl rfl (zch _ _ _ _ _ rfl) ?hone ?h63 ?hby ?hbs ?_)
        go_must (case hone => simp [Value.oneCell'])
        go_must (case h63 => simp only [maxLen]; omega)
        go_must (case hby => omega)
        go_must (case hbs => simp; omega)
        intro v4 w4 hown4 hgr4 _ hat4))
    obtain ⟨A4, c4, rfl⟩ := zam hown4
    have hB4 : Below w1.heap.size w1 w4 := (hB.alloc hsz _).grown hgr4 (by simp; omega) (fun j hj => (hown.lt j hj).1)
    go_roundw
    case rel => exact ⟨k + 1, A4, c4, by omega, by go_num, by rw [HSK.out, HB2.out]; simp, by rw [HSK.out, HB2.out, zaj, List.length_append]; exact hown4, hB4⟩
    case measure => simp [intOf]; omega
   ·have n91 : (((s[p]).toNat : Int) == 91) = false := by rw [beq_eq_false_iff_ne]; omega
    have n123 : (((s[p]).toNat : Int) == 123) = false := by rw [beq_eq_false_iff_ne]; omega
    have n58 : (((s[p]).toNat : Int) == 58) = true := by rw [beq_iff_eq]; omega
    have n44 : (((s[p]).toNat : Int) == 44) = false := by rw [beq_eq_false_iff_ne]; omega
    have HB2 := hid (show zbc (s[p]).toNat = [false, true] from by rw [hc]; rfl)
    clear hc
    go_wp2_with (first
     | (at_builtin
        go_must (refine wpList_append_own_at _ rfl (.tmp 28) (.tmp 39) 31 rfl w1.heap.size 4 i0 _ 1 1 Tryz.underlying31 hi0 iz0 iz1 iz2 rfl (by decide) (.slice Ao F.length co) F.length _ rfl (hown.alloc _) ⟨wr.heap.size, 0, none⟩ 2 2 [.bool false, .bool true] rfl rfl (zch _ _ _ _ _ rfl) ?hone ?h63 ?hby ?hbs ?_)
        go_must (case hone => simp [Value.oneCell'])
        go_must (case h63 => simp only [maxLen]; omega)
        go_must (case hby => omega)
        go_must (case hbs => simp; omega)
        intro v4 w4 hown4 hgr4 _ hat4))
    obtain ⟨A4, c4, rfl⟩ := zam hown4
    have hB4 : Below w1.heap.size w1 w4 := (hB.alloc hsz _).grown hgr4 (by simp; omega) (fun j hj => (hown.lt j hj).1)
    go_roundw
    case rel => exact ⟨k + 1, A4, c4, by omega, by go_num, by rw [HSK.out, HB2.out]; simp, by rw [HSK.out, HB2.out, zaj, List.length_append]; exact hown4, hB4⟩
    case measure => simp [intOf]; omega
   ·have n91 : (((s[p]).toNat : Int) == 91) = false := by rw [beq_eq_false_iff_ne]; omega
    have n123 : (((s[p]).toNat : Int) == 123) = false := by rw [beq_eq_false_iff_ne]; omega
    have n58 : (((s[p]).toNat : Int) == 58) = false := by rw [beq_eq_false_iff_ne]; omega
    have n44 : (((s[p]).toNat : Int) == 44) = true := by rw [beq_iff_eq]; omega
    have HB2 := hid (show zbc (s[p]).toNat = [false, true] from by rw [hc]; rfl)
    clear hc
    go_wp2_with (first
     | (at_builtin
        go_must (refine wpList_append_own_at _ rfl (.tmp 28) (.tmp 39) 31 rfl w1.heap.size 4 i0 _ 1 1 Tryz.underlying31 hi0 iz0 iz1 iz2 rfl (by decide) (.slice Ao F.length co) F.length _ rfl (hown.alloc _) ⟨wr.heap.size, 0, none⟩ 2 2 [.bool false, .bool true] rfl rfl (zch _ _ _ _ _ rfl) ?hone ?h63 ?hby ?hbs ?_)
        go_must (case hone => simp [Value.oneCell'])
        go_must (case h63 => simp only [maxLen]; omega)
        go_must (case hby => omega)
        go_must (case hbs => simp; omega)
        intro v4 w4 hown4 hgr4 _ hat4))
    obtain ⟨A4, c4, rfl⟩ := zam hown4
    have hB4 : Below w1.heap.size w1 w4 := (hB.alloc hsz _).grown hgr4 (by simp; omega) (fun j hj => (hown.lt j hj).1)
    go_roundw
    case rel => exact ⟨k + 1, A4, c4, by omega, by go_num, by rw [HSK.out, HB2.out]; simp, by rw [HSK.out, HB2.out, zaj, List.length_append]; exact hown4, hB4⟩
    case measure => simp [intOf]; omega
  ·obtain rfl : k = PL.length := by omega
   have hkI : ¬ ((PL.length : Int) < (PL.length : Int)) := by omega
   rw [HFIN.out] at hown
   go_wp2_with fail
   go_ret
   exact ⟨Ao, ⟨co, by rw [← HFIN.out]; rfl⟩, zbw hown, hB1.trans (hB.mono hz1)⟩
def L.seqS (l : List Nat) : ByteArray := ⟨(zy (seqB (wd (places l).length (bndN l)) (top (places l) (bndN l)) (places l) (bndN l))).toArray⟩
def L.idxS (l : List Nat) : ByteArray := ⟨(leB (seqS l).size 8).toArray⟩ ++ seqS l ++ ⟨(zy (zl l)).toArray⟩
theorem L.zn8 {l : List Nat} (h : l.length ≤ 65536) (hm : (places l).length ≤ 10000) : (seqS l).size ≤ 1000000 := by
 have hr := zb5 (l := l) (by omega)
 have hf := zc7 h hm
 show (zy (seqB (wd (places l).length (bndN l)) (top (places l) (bndN l)) (places l) (bndN l))).length ≤ 1000000
 have hlen := zeu (wd (places l).length (bndN l)) (top (places l) (bndN l)) (places l) (bndN l) (hr.up _) (Nat.le_trans (hr.last _) (Nat.le_succ _))
 have hwd := zey (places l).length (bndN l) hr.1.2
 rw [zdo, hlen]
 have h2 : (places l).length * wd (places l).length (bndN l) ≤ 10000 * 40 := Nat.mul_le_mul hm hwd
 have h3 := hf.2
 have ht : top (places l) (bndN l) = (bndN l - 1) / 2 ^ wd (places l).length (bndN l) + 1 := rfl
 rw [ht]
 unfold zh
 omega
theorem L.zkz {l : List Nat} (hm : (places l).length ≤ 10000) : (zy (zl l)).length ≤ 1000000 := by
 rw [zah] at hm
 rw [zdo, zbz]
 unfold zh
 omega
theorem zjn (g : Nat) (s : ByteArray) (w : World) (hi : zbo w g s) (hT : Tab w) (hs : (nb s).length ≤ 65536) (hm : (places (nb s)).length ≤ 10000) :
  Calls Tryz.prog 11 #[.pointer (some ⟨g, 0, none⟩)] w fun e w' => e = .returned (.string (idxS (nb s))) ∧ Below w.heap.size w w' := by
 obtain ⟨q, x, t, Ax, cx, h1, h2, h3, h4⟩ := hi
 have hb1 := zn8 hs hm
 have hb2 := zkz hm
 have hb4 : (leB (seqS (nb s)).size 8).length = 8 := ze _ _
 have hbA : ¬ 9223372036854775807 < (⟨(leB (seqS (nb s)).size 8).toArray⟩ : ByteArray).size + (seqS (nb s)).size := by
  show ¬ 9223372036854775807 < (leB (seqS (nb s)).size 8).length + (seqS (nb s)).size
  omega
 have hbB : ¬ 9223372036854775807 < (⟨(leB (seqS (nb s)).size 8).toArray⟩ : ByteArray).size + (seqS (nb s)).size + (⟨(zy (zl (nb s))).toArray⟩ : ByteArray).size := by
  show ¬ 9223372036854775807 < (leB (seqS (nb s)).size 8).length + (seqS (nb s)).size + (zy (zl (nb s))).length
  omega
 have hz : (seqS (nb s)).size < 9223372036854775808 := by omega
 have k0 := h1.cell 0
 have K1 := hid (show ∀ W, Below w.heap.size w W → W.cell? ⟨g, 1, none⟩ = some (.pointer (some ⟨x, 0, none⟩)) from fun W hW => (h1.below hW).cell 1)
 have HS := hid (show Calls Tryz.prog 36 #[.pointer (some ⟨q, 0, none⟩)] w fun e w' => e = .returned (.string (seqS (nb s))) ∧ Below w.heap.size w w' from ztk q (places (nb s)) (bndN (nb s)) w h2 hT (zb5 (by omega)) (zc7 hs hm))
 have HR := hid (fun W (hW : Below w.heap.size w W) => znl x Ax cx (zl (nb s)) W (h3.below hW))
 have HLN := hid (fun W => zpb (seqS (nb s)).size W hz)
 have HID := hid (show idxS (nb s) = ⟨(leB (seqS (nb s)).size 8).toArray⟩ ++ seqS (nb s) ++ ⟨(zy (zl (nb s))).toArray⟩ from rfl)
 clear h1 h2 h3 h4 hs hm
 generalize idxS (nb s) = I at *
 generalize seqS (nb s) = T at *
 generalize (⟨(leB T.size 8).toArray⟩ : ByteArray) = E at *
 generalize (⟨(zy (zl (nb s))).toArray⟩ : ByteArray) = U at *
 clear hb1 hb2 hb4
 go_enter Tryz.func11, Tryz.ntmps11
 go_wp2_with fail
 refine (HS.out).mono ?_
 rintro e w1 ⟨rfl, hB1⟩
 have hz1 := hB1.size
 have k1 := K1.out _ hB1
 have KC := hid (show ∀ W, Below w1.heap.size w1 W → W.cell? ⟨g, 1, none⟩ = some (.pointer (some ⟨x, 0, none⟩)) from fun W hW => K1.out W (hB1.trans (hW.mono hz1)))
 have HC1 := hid (fun W (hW : Below w1.heap.size w1 W) => (HLN.out W).mono (R' := fun e w' => e = .returned (.string E) ∧ Below w1.heap.size w1 w') (fun e w' ⟨h1, h2⟩ => ⟨h1, hW.trans (h2.mono hW.size)⟩))
 have HC2 := hid (fun W (hW : Below w1.heap.size w1 W) => (HR.out W (hB1.trans (hW.mono hz1))).mono (R' := fun e w' => e = .returned (.string U) ∧ Below w1.heap.size w1 w') (fun e w' ⟨h1, h2⟩ => ⟨h1, hW.trans (h2.mono hW.size)⟩))
 have hB11 := Below.refl w1.heap.size w1
 clear HLN HR HS K1
 go_wp2_with fail
 go_region_held3 (fun w' => Below w1.heap.size w1 w' ∧ w'.cell? ⟨g, 1, none⟩ = some (.pointer (some ⟨x, 0, none⟩))) (first | exact ⟨hB11.drew, k1⟩ | exact ⟨hB11, k1⟩ | exact ⟨e1, KC.out _ e1⟩ | exact ⟨e2, KC.out _ e2⟩ | assumption)
  (first
   | (go_at_call 37; with_reducible refine (HC1.out _ (by first | assumption | exact And.left (by assumption))).mono ?_; rintro e w6 ⟨rfl, e1⟩)
   | (go_at_call 38; with_reducible refine (HC2.out _ (by first | assumption | exact And.left (by assumption))).mono ?_; rintro e w7 ⟨rfl, e2⟩))
 all_goals go_wp2_with fail
 all_goals go_ret
 all_goals exact ⟨by rw [HID.out]; rfl, hB1.trans (Below.mono (by first | exact e2 | exact e1 | assumption) hz1)⟩
theorem zpd (s : ByteArray) (w : World) (hs : s.size ≤ 4096) :
  Calls Tryz.prog 47 #[.string s] w fun e w' => e = .returned (.int .i64 (bndN (nb s) : Nat)) ∧ Below w.heap.size w w' := by
 have HP := hid (fun W => zez s W hs)
 have HB := hid (show bndN (nb s) = if (places (nb s)).length = 0 then 1 else s.size from by unfold bndN; rw [zf])
 generalize places (nb s) = P at *
 generalize bndN (nb s) = B at *
 rcases Nat.eq_zero_or_pos P.length with h | h
 ·have HB2 := hid (show B = 1 from by rw [HB.out, if_pos h])
  have hI : (P.length : Int) = 0 := by omega
  go_enter Tryz.func47, Tryz.ntmps47
  go_wp2_with fail
  refine (HP.out _).mono ?_
  rintro e w1 ⟨A, c, rfl, hl1, hB1⟩
  go_wp2_with fail
  go_ret
  exact ⟨by rw [HB2.out]; rfl, hB1⟩
 ·have HB2 := hid (show B = s.size from by rw [HB.out, if_neg (by omega)])
  have hb : ((P.length : Int) == 0) = false := by rw [beq_eq_false_iff_ne]; omega
  have hz : ¬ (P.length = 0) := by omega
  go_enter Tryz.func47, Tryz.ntmps47
  go_wp2_with fail
  refine (HP.out _).mono ?_
  rintro e w1 ⟨A, c, rfl, hl1, hB1⟩
  go_wp2_with fail
  go_ret
  exact ⟨by rw [HB2.out]; rfl, hB1⟩
theorem zhu (s : ByteArray) (w : World) (hs : s.size ≤ 4096) :
  Calls Tryz.prog 15 #[.string s] w fun e w' => e = .returned (.string (idxS (nb s))) ∧ Below w.heap.size w w' := by
 have hnl : (nb s).length ≤ 4096 := by rw [zf]; exact hs
 have hpl : (places (nb s)).length ≤ 4096 := by rw [zah]; have := zbg (nb s); omega
 have hpr : (zl (nb s)).length ≤ 8192 := by rw [zbz]; have := zbg (nb s); omega
 have hb1 := zn8 (l := nb s) (by omega) (by omega)
 have hb2 := zkz (l := nb s) (by omega)
 have hb4 : (leB (seqS (nb s)).size 8).length = 8 := ze _ _
 have hbA : ¬ 9223372036854775807 < (⟨(leB (seqS (nb s)).size 8).toArray⟩ : ByteArray).size + (seqS (nb s)).size := by
  show ¬ 9223372036854775807 < (leB (seqS (nb s)).size 8).length + (seqS (nb s)).size
  omega
 have hbB : ¬ 9223372036854775807 < (⟨(leB (seqS (nb s)).size 8).toArray⟩ : ByteArray).size + (seqS (nb s)).size + (⟨(zy (zl (nb s))).toArray⟩ : ByteArray).size := by
  show ¬ 9223372036854775807 < (leB (seqS (nb s)).size 8).length + (seqS (nb s)).size + (zy (zl (nb s))).length
  omega
 have hz : (seqS (nb s)).size < 9223372036854775808 := by omega
 have HP := hid (fun W => zez s W hs)
 have HQ := hid (fun W => zjm s W hs)
 have HB := hid (fun W => zpd s W hs)
 have HS := hid (fun A c W hW => (show Calls Tryz.prog 45 #[.slice A (places (nb s)).length c, .int .i64 (bndN (nb s) : Nat)] W fun e w' => e = .returned (.string (seqS (nb s))) ∧ Below W.heap.size W w' from zn2 A c (places (nb s)) (bndN (nb s)) W hW (zb5 (by omega)) (zc7 (by omega) (by omega))))
 have HE := hid (fun W => zpc (seqS (nb s)).size W hz)
 have HR := hid (fun A c W hW => zkf A c (zl (nb s)) W hW (by omega))
 have HID := hid (show idxS (nb s) = ⟨(leB (seqS (nb s)).size 8).toArray⟩ ++ seqS (nb s) ++ ⟨(zy (zl (nb s))).toArray⟩ from rfl)
 clear hnl
 generalize places (nb s) = P at *
 generalize bndN (nb s) = B at *
 generalize idxS (nb s) = I at *
 generalize seqS (nb s) = T at *
 generalize (⟨(leB T.size 8).toArray⟩ : ByteArray) = E at *
 generalize (⟨(zy (zl (nb s))).toArray⟩ : ByteArray) = U at *
 generalize zl (nb s) = R at *
 clear hb1 hb2 hb4
 go_enter Tryz.func15, Tryz.ntmps15
 go_wp2_with fail
 refine (HP.out _).mono ?_
 rintro e w1 ⟨A1, c1, rfl, hl1, hB1⟩
 go_wp2_with fail
 refine (HB.out _).mono ?_
 rintro e w2 ⟨rfl, hB2⟩
 have hl2 := hl1.below hB2
 have hB12 := hB1.trans (hB2.mono hB1.size)
 clear hB1 hB2 hl1
 go_wp2_with fail
 refine (HS.out _ _ _ hl2).mono ?_
 rintro e w3 ⟨rfl, hB3⟩
 have hB13 := hB12.trans (hB3.mono hB12.size)
 clear hB12 hB3 hl2
 go_wp2_with fail
 refine (HE.out _).mono ?_
 rintro e w4 ⟨rfl, hB4⟩
 have hB14 := hB13.trans (hB4.mono hB13.size)
 clear hB13 hB4
 go_wp2_with fail
 refine (HQ.out _).mono ?_
 rintro e w5 ⟨A5, c5, rfl, hl5, hB5⟩
 have hB15 := hB14.trans (hB5.mono hB14.size)
 clear hB14 hB5
 go_wp2_with fail
 refine (HR.out _ _ _ hl5).mono ?_
 rintro e w6 ⟨rfl, hB6⟩
 have hB16 := hB15.trans (hB6.mono hB15.size)
 go_wp2_with fail
 go_ret
 exact ⟨by rw [HID.out]; rfl, hB16⟩
theorem zpe (g : Nat) (s : ByteArray) (i : Nat) (w : World) (hi : zbo w g s) (hT : Tab w) (hs : (nb s).length ≤ 65536) (hm : (places (nb s)).length ≤ 10000) (hk : i < (places (nb s)).length) :
  Calls Tryz.prog 56 #[.pointer (some ⟨g, 0, none⟩), .int .i64 ((places (nb s))[i] : Nat)] w fun e w' => e = .returned (.int .i64 (i : Nat)) ∧ Below w.heap.size w w' := by
 obtain ⟨q, y, t, Ax, cx, h1, h2, h3, h4⟩ := hi
 have k0 := h1.cell 0
 have hah := zsz (nb s) i hk
 have hlt := zki (nb s) _ (List.getElem_mem hk)
 have hbd : (places (nb s))[i] < bndN (nb s) := by unfold bndN; rw [if_neg (by omega)]; exact hlt
 have HL := hid (show Calls Tryz.prog 110 #[.pointer (some ⟨q, 0, none⟩), .int .i64 ((places (nb s))[i] : Nat)] w fun e w' => e = .returned (.int .i64 (i : Nat)) ∧ Below w.heap.size w w' from by
  rcases Nat.eq_zero_or_pos (places (nb s))[i] with h0 | h0
  ·have hi0 : i = 0 := by
    rw [h0] at hah
    rw [← hah]
    exact List.countP_eq_zero.2 (fun y hy => by simp)
   have := z2r q ((places (nb s))[i] : Nat) w (by omega)
   have e0 : ((i : Nat) : Int) = 0 := by omega
   rw [e0]
   exact this
  ·have := z2t q (places (nb s)) (bndN (nb s)) (places (nb s))[i] w h2 hT (zb5 (by omega)) (zc7 hs hm) h0 hbd
   unfold cl at this
   rwa [hah] at this)
 clear h1 h2 h3 h4 hah hlt hbd
 generalize (places (nb s))[i] = v at *
 go_enter Tryz.func56, Tryz.ntmps56
 go_wp2_with fail
 refine (HL.out).mono ?_
 rintro e w' ⟨rfl, hB⟩
 go_wp2_with fail
 go_ret
 exact ⟨rfl, hB⟩
end Go.Proofs.YtgpbpgpolpakjaaGreatDoor
