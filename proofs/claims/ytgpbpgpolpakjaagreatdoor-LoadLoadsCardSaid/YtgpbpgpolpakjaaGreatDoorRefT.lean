/- Proof text. -/
import Derived.Test.YtgpbpgpolpakjaaGreatDoorSplitP
import Derived.Test.YtgpbpgpolpakjaaGreatDoorRefS
import Derived.Deep.RegionWith
set_option maxHeartbeats 4000000
set_option linter.unusedVariables false
set_option linter.unusedSimpArgs false
set_option maxRecDepth 100000
namespace Go.Proofs.YtgpbpgpolpakjaaGreatDoor
open Go.RowKit Go.Shelf L
theorem zyj (s : ByteArray) (w : World) (hs : s.size ≤ 4096) :
  Calls Tryz.prog 112 #[.string s] w fun e w' => ∃ A c, e = .returned (.slice A (spans (nb s)).length c) ∧ w'.ownsRow w.heap.size 94 2 (.slice A (spans (nb s)).length c) (spans (nb s)).length (spC (spans (nb s))) ∧ Below w.heap.size w w' := by
 obtain ⟨i0, hi, hz0, hz1, hz2⟩ := info_parts Tryz.infoSpan
 have HL := hid (zf s)
 have HSL := hid (zfo (nb s))
 obtain ⟨X, hX⟩ : ∃ X, X = spans (nb s) := ⟨_, rfl⟩
 rw [← hX] at HSL ⊢
 have HX := hid hX
 clear hX
 go_enter Tryz.func112, Tryz.ntmps112
 go_wp2_with fail
 go_loopw [3, 4, 5] (fun ov fv iv wr => ∃ (pre : List (Nat × Nat)) (a i : Nat) (A : Option Addr) (c : Nat), ov = .slice A pre.length c ∧ fv = .int .i64 (a : Nat) ∧ iv = .int .i64 (i : Nat) ∧ a ≤ i ∧ i ≤ s.size ∧ wr.ownsRow w.heap.size 94 2 (.slice A pre.length c) pre.length (spC pre) ∧ Below w.heap.size w wr ∧ X = pre ++ spnA (nb s) a ∧ ∀ j, a ≤ j → j < i → at_ (nb s) j ≠ 10) (fun _ _ iv _ => s.size - (intOf iv).toNat)
 case atStart => exact ⟨[], 0, 0, none, 0, rfl, rfl, rfl, Nat.le_refl _, Nat.zero_le _, World.ownsRow_nil _ _ _ _, Below.refl _ _, HX.out, fun j h1 h2 => by omega⟩
 case round =>
  obtain ⟨pre, a, i, A, c, rfl, rfl, rfl, hai, his, hown, hB, hx, hno⟩ := hrel
  have hsz := hB.size
  have hpl : pre.length ≤ 4096 := by
   have h1 := HSL.out
   rw [hx, List.length_append, HL.out] at h1
   omega
  have HPX := hid hx
  have HNO := hid hno
  clear hx hno
  rcases Nat.lt_or_ge i s.size with h | h
  ·have hiI : (i : Int) < (s.size : Int) := by omega
   have hiI2 : decide ((i : Int) < (s.size : Int)) = true := decide_eq_true hiI
   have HA := hid (zaz s i h)
   have hiW := zg i (by omega)
   by_cases h10 : (s[i]).toNat = 10
   ·have hcI : ((s[i]).toNat : Int) = 10 := by omega
    have hn : nlx (nb s) a = i := zt8 hai (by rw [HL.out]; omega) HNO.out (fun _ => by rw [HA.out]; exact h10)
    have HN := hid (show X = (pre ++ [(a, i)]) ++ spnA (nb s) (i + 1) by rw [HPX.out, zk1 (by rw [HL.out]; omega), hn]; simp)
    clear h10 hn
    go_wp2_with (at_builtin
                 go_must (refine wpList_append_own_at _ rfl (.tmp 16) (.tmp 20) 102 rfl w.heap.size 94 i0 _ 2 16 Tryz.underlying102 hi hz0 hz1 hz2 rfl (by decide) (.slice A pre.length c) pre.length _ rfl (hown.alloc _) ⟨wr.heap.size, 0, none⟩ 1 1 [.int .i64 (a : Nat), .int .i64 (i : Nat)] rfl rfl (cell_two_at _ _ _ _ _ rfl) ?hone ?h63 ?hby ?hbs ?_)
                 go_must (case hone => simp [Value.oneCell'])
                 go_must (case h63 => simp only [maxLen]; omega)
                 go_must (case hby => omega)
                 go_must (case hbs => simp; omega)
                 intro v2 w4 hown4 hgr4 _ hat4)
    obtain ⟨A4, c4, rfl⟩ := zam hown4
    have hB4 : Below w.heap.size w w4 := (hB.alloc hsz _).grown hgr4 (by simp; omega) (fun k hk => (hown.lt k hk).1)
    go_roundw
    case rel => exact ⟨pre ++ [(a, i)], i + 1, i + 1, A4, c4, by rw [List.length_append]; rfl, by go_num, by go_num, Nat.le_refl _, h, by rw [zmx, List.length_append]; exact hown4, hB4, HN.out, fun j h1 h2 => by omega⟩
    case measure => simp [intOf]; omega
   ·have hcI : (((s[i]).toNat : Int) == 10) = false := by rw [beq_eq_false_iff_ne]; omega
    have HN := hid (show ∀ j, a ≤ j → j < i + 1 → at_ (nb s) j ≠ 10 from fun j h1 h2 => by
     rcases Nat.lt_or_ge j i with h3 | h3
     ·exact HNO.out j h1 h3
     ·obtain rfl : j = i := by omega
      rw [HA.out]; exact h10)
    clear h10
    go_wp2_with fail
    go_roundw
    case rel => exact ⟨pre, a, i + 1, A, c, rfl, rfl, by go_num, by omega, h, hown, hB, HPX.out, HN.out⟩
    case measure => simp [intOf]; omega
  ·obtain rfl : i = s.size := by omega
   have hiI2 : decide ((s.size : Int) < (s.size : Int)) = false := decide_eq_false (by omega)
   rcases Nat.lt_or_ge a s.size with h3 | h3
   ·have haI : (a : Int) < (s.size : Int) := by omega
    have haI2 : decide ((a : Int) < (s.size : Int)) = true := decide_eq_true haI
    have hn : nlx (nb s) a = s.size := zt8 hai (by rw [HL.out]; omega) HNO.out (fun h4 => by rw [HL.out] at h4; omega)
    have HN := hid (show X = pre ++ [(a, s.size)] by rw [HPX.out, zk1 (by rw [HL.out]; omega), hn, zmv (by rw [HL.out]; omega)])
    clear hn
    go_wp2_with (at_builtin
                 go_must (refine wpList_append_own_at _ rfl (.tmp 28) (.tmp 33) 102 rfl w.heap.size 94 i0 _ 2 16 Tryz.underlying102 hi hz0 hz1 hz2 rfl (by decide) (.slice A pre.length c) pre.length _ rfl (hown.alloc _) ⟨wr.heap.size, 0, none⟩ 1 1 [.int .i64 (a : Nat), .int .i64 (s.size : Nat)] rfl rfl (cell_two_at _ _ _ _ _ rfl) ?hone ?h63 ?hby ?hbs ?_)
                 go_must (case hone => simp [Value.oneCell'])
                 go_must (case h63 => simp only [maxLen]; omega)
                 go_must (case hby => omega)
                 go_must (case hbs => simp; omega)
                 intro v2 w4 hown4 hgr4 _ hat4)
    obtain ⟨A4, c4, rfl⟩ := zam hown4
    have hB4 : Below w.heap.size w w4 := (hB.alloc hsz _).grown hgr4 (by simp; omega) (fun k hk => (hown.lt k hk).1)
    go_ret
    have e := HN.out
    subst e
    refine ⟨A4, c4, by rw [List.length_append]; rfl, by rw [zmx, List.length_append]; exact hown4, hB4⟩
   ·have haI2 : decide ((a : Int) < (s.size : Int)) = false := decide_eq_false (by omega)
    have haN : ¬ (a < s.size) := by omega
    have HN := hid (show X = pre by rw [HPX.out, zmv (by rw [HL.out]; omega), List.append_nil])
    go_wp2_with fail
    go_ret
    have e := HN.out
    subst e
    exact ⟨A, c, rfl, hown, hB⟩
theorem zk3 (s : ByteArray) (deep : Nat) (w : World) (hs : s.size ≤ 4096) (h1 : 1 ≤ deep) (h2 : deep ≤ 4096) :
  Calls Tryz.prog 62 #[.string s, .int .i64 (deep : Nat)] w fun e w' => ∃ A c, e = .returned (.tuple #[.slice A (recs (nb s) deep).length c, .int .i64 0]) ∧ Lst w' A (recC (recs (nb s) deep)) ∧ Below w.heap.size w w' := by
 obtain ⟨i0, hi, hz0, hz1, hz2⟩ := info_parts Tryz.infoRec
 have HL := hid (zf s)
 have d1 : decide ((deep : Int) < 1) = false := decide_eq_false (by omega)
 have d1N : ¬ (deep < 1) := by omega
 have d2 : decide ((deep : Int) > 4096) = false := decide_eq_false (by omega)
 have d2N : ¬ (4096 < deep) := by omega
 have hn : (spans (nb s)).length ≤ 4096 := by have := zfo (nb s); rw [HL.out] at this; omega
 have LI := hid (fun W => (zyj s W hs).mono (R' := fun e w' => ∃ A c, e = .returned (.slice A (spans (nb s)).length c) ∧ Lst w' A (spC (spans (nb s))) ∧ Below W.heap.size W w') (fun e w' ⟨A, c, h5, h6, h4⟩ => ⟨A, c, h5, zdq h6 (by omega), h4⟩))
 have HIN := hid (fun p (h : p ∈ spans (nb s)) => (show p.1 ≤ p.2 ∧ p.2 ≤ s.size from by have := zmw h; rw [HL.out] at this; exact this))
 have hrl : (recs (nb s) deep).length = (spans (nb s)).length := by unfold recs; rw [List.length_map]
 rw [hrl]
 have HRE := hid (show recs (nb s) deep = (spans (nb s)).map (recN (nb s) deep) from rfl)
 obtain ⟨X, hX⟩ : ∃ X, X = spans (nb s) := ⟨_, rfl⟩
 rw [← hX] at LI HIN HRE hn ⊢
 clear hX hrl
 have d3 : decide ((s.size : Int) > 1048576) = false := decide_eq_false (by omega)
 have d3N : ¬ (1048576 < s.size) := by omega
 have d4 : decide ((X.length : Int) > 4096) = false := decide_eq_false (by omega)
 have d4N : ¬ (4096 < X.length) := by omega
 go_enter Tryz.func62, Tryz.ntmps62
 go_wp2_with fail
 (with_reducible refine (LI.out _).mono ?_)
 rintro e w1 ⟨A, c, rfl, hlst, hB1⟩
 go_wp2_with fail
 go_loopw [7, 8] (fun ov iv wr => ∃ (j : Nat) (Ao : Option Addr) (co : Nat), iv = .int .i64 (j : Nat) ∧ ov = .slice Ao j co ∧ j ≤ X.length ∧ wr.ownsRow w1.heap.size 96 4 (.slice Ao j co) j (recC ((X.take j).map (recN (nb s) deep))) ∧ Below w1.heap.size w1 wr) (fun _ iv _ => X.length - (intOf iv).toNat)
 case atStart => exact ⟨0, none, 0, rfl, rfl, by omega, World.ownsRow_nil _ _ _ _, Below.refl _ _⟩
 case round =>
  obtain ⟨j, Ao, co, rfl, rfl, hj, hown, hB⟩ := hrel
  have hsz := hB.size
  rcases Nat.lt_or_ge j X.length with hlt | hge
  ·have hji : (j : Int) < (X.length : Int) := by omega
   have hji2 : decide ((j : Int) < (X.length : Int)) = true := decide_eq_true hji
   have hj0 : (0 : Int) ≤ (j : Int) := by omega
   have hjW := zg j (by omega)
   have hlr := hlst.below hB
   have hspan := fun W (hW : Lst W A (spC X)) => zje hW hlt
   obtain ⟨g, o, rfl, k0, k1⟩ := zje hlr hlt
   have hin := HIN.out X[j] (List.getElem_mem hlt)
   have HT := hid (show (X.take (j + 1)).map (recN (nb s) deep) = (X.take j).map (recN (nb s) deep) ++ [recN (nb s) deep X[j]] by rw [List.take_succ_eq_append_getElem hlt, List.map_append]; rfl)
   obtain ⟨p, hp⟩ : ∃ p, p = X[j] := ⟨_, rfl⟩
   have HSP := hid (fun W (hW : Below wr.heap.size wr W) => (show W.cell? ⟨g, o + j * 2, none⟩ = some (.int .i64 (p.1 : Nat)) ∧ W.cell? ⟨g, o + j * 2 + 1, none⟩ = some (.int .i64 (p.2 : Nat)) from by
    obtain ⟨g2, o2, e, l0, l1⟩ := hspan W (hlr.below hW)
    injection e with e
    injection e with e1 e2
    subst e1; subst e2
    rw [hp]; exact ⟨l0, l1⟩))
   rw [← hp] at k0 k1 hin HT
   clear hp hspan
   obtain ⟨p1, p2⟩ := p
   dsimp only at k0 k1 hin HSP
   have hp12 : (p1 : Int) ≤ (p2 : Int) := by omega
   have hp2s : (p2 : Int) ≤ (s.size : Int) := by omega
   have hp10 : (0 : Int) ≤ (p1 : Int) := by omega
   have VA := hid (fun W => zyc (s.extract p1 p2) deep W)
   have HX := hid (show nb (s.extract p1 p2) = sub_ (nb s) p1 p2 from L.zgi s p1 p2)
   have HRN := hid (show recN (nb s) deep (p1, p2) = ⟨p1, p2, (verd (nb (s.extract p1 p2)) deep).1, (verd (nb (s.extract p1 p2)) deep).2⟩ by rw [HX.out]; rfl)
   obtain ⟨vd, hvd⟩ : ∃ vd, vd = verd (nb (s.extract p1 p2)) deep := ⟨_, rfl⟩
   rw [← hvd] at VA HRN
   clear hvd
   obtain ⟨v, pl⟩ := vd
   go_wp2_with fail
   go_region_with (go_at_call 39; refine (VA.out _).mono ?_; rintro e w3 ⟨rfl, hB3⟩)
   all_goals go_simp
   all_goals
    have hB3' : Below wr.heap.size wr w3 := (Below.refl _ _).drew.trans (show Below wr.heap.size wr.drew w3 from hB3)
    obtain ⟨x0, x1⟩ := HSP.out w3 hB3'
    have hsz3 := hB3'.size
    have hown3 : w3.ownsRow w1.heap.size 96 4 (.slice Ao j co) j (recC ((X.take j).map (recN (nb s) deep))) := zac (S := fun _ => False) hown (Only.of_below hB3') (fun _ _ h => h)
    have hBB3 := hB.trans (hB3'.mono hsz)
    have hs3 : w1.heap.size ≤ w3.heap.size := hBB3.size
    go_wp2_with (at_builtin
                 go_must (refine wpList_append_own_at _ rfl (.tmp 48) (.tmp 56) 87 rfl w1.heap.size 96 i0 _ 4 32 Tryz.underlying87 hi hz0 hz1 hz2 rfl (by decide) (.slice Ao j co) j _ rfl (hown3.alloc _) ⟨w3.heap.size, 0, none⟩ 1 1 [.int .i64 (p1 : Nat), .int .i64 (p2 : Nat), .int .i64 (v : Nat), .int .i64 (pl : Nat)] rfl rfl (zk2 _ _ _ _ _ _ _ rfl) ?hone ?h63 ?hby ?hbs ?_)
                 go_must (case hone => simp [Value.oneCell'])
                 go_must (case h63 => simp only [maxLen]; omega)
                 go_must (case hby => omega)
                 go_must (case hbs => simp; omega)
                 intro v2 w4 hown4 hgr4 _ hat4)
    obtain ⟨A4, c4, rfl⟩ := zam hown4
    have hB4 : Below w1.heap.size w1 w4 := (hBB3.alloc hs3 _).grown hgr4 (by simp; omega) (fun k hk => (hown3.lt k hk).1)
    go_roundw
    case rel => exact ⟨j + 1, A4, c4, by go_num, rfl, by omega, by rw [HT.out, zqu, HRN.out]; exact hown4, hB4⟩
    case measure => simp [intOf]; omega
  ·obtain rfl : j = X.length := by omega
   go_wp2_with fail
   go_ret2
   exact ⟨Ao, co, rfl, by rw [HRE.out]; rw [List.take_length] at hown; exact zdq hown (by omega), hB1.trans (hB.mono hB1.size)⟩
theorem zua (n a : Nat) (h : a ≤ n) : lo24 n (a : Int) = a := by unfold lo24; omega
theorem z1a (n a b : Nat) (h : a ≤ b) (h2 : b ≤ n) : hi24 n (a : Int) (b : Int) = b := by unfold hi24; rw [zua n a (by omega)]; omega
end Go.Proofs.YtgpbpgpolpakjaaGreatDoor
