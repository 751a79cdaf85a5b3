/- Proof text. -/
import Derived.Test.YtgpbpgpolpakjaaGreatDoorBitsP
import Derived.Test.YtgpbpgpolpakjaaGreatDoorMaths
import Derived.Lib.IndexBytes
set_option maxHeartbeats 4000000
set_option linter.unusedVariables false
set_option linter.unusedSimpArgs false
set_option maxRecDepth 100000
namespace Go.Proofs.YtgpbpgpolpakjaaGreatDoor
open Go.RowKit L
theorem ztn (s : ByteArray) : leTo s 8 = valL s.data.toList := rfl
theorem z0d (s : ByteArray) (a i : Nat) (ha : a = 8 + 8 * i) (h : a ≤ s.size) : leTo (s.extract a s.size) 8 = zb1 s.data.toList i := by
 subst ha
 unfold leTo zb1
 have : (s.extract (8 + 8 * i) s.size).data.toList = s.data.toList.drop (8 + 8 * i) := by
  rw [ByteArray.data_extract, Array.toList_extract]
  simp [List.extract]
  apply List.take_of_length_le
  rw [List.length_drop]
  have : s.data.size = s.size := rfl
  simp [this]
 rw [this]
theorem z2v (s : ByteArray) (w : World) (h : s.size < 8) :
  Calls Tryz.prog 92 #[.string s] w fun e w' => e = .returned (.tuple #[.pointer none, .int .i64 3]) ∧ Below w.heap.size w w' := by
 have h1 : (s.size : Int) < 8 := by omega
 go_enter Tryz.func92, Tryz.ntmps92
 go_wp2
 go_ret2
 exact ⟨rfl, Below.refl _ _⟩
theorem z2w (s : ByteArray) (w : World) (h : 8 ≤ s.size) (hv : 4294967296 < valL s.data.toList) :
  Calls Tryz.prog 92 #[.string s] w fun e w' => e = .returned (.tuple #[.pointer none, .int .i64 3]) ∧ Below w.heap.size w w' := by
 have h1 : (8 : Int) ≤ (s.size : Int) := by omega
 have h2 : (4294967296 : Int) < (valL s.data.toList : Int) := by omega
 go_enter Tryz.func92, Tryz.ntmps92
 go_wp2_with (go_at_call 141; refine (zgs s _ h).mono ?_; rw [ztn]; rintro e w' ⟨rfl, rfl⟩)
 go_ret2
 exact ⟨rfl, Below.refl _ _⟩
theorem z0e (s : ByteArray) (w : World) (h : 8 ≤ s.size) (hv : valL s.data.toList ≤ 4294967296) (hl : s.size ≠ 8 + 8 * zh (valL s.data.toList)) (hs : s.size ≤ 1000000) :
  Calls Tryz.prog 92 #[.string s] w fun e w' => e = .returned (.tuple #[.pointer none, .int .i64 3]) ∧ Below w.heap.size w w' := by
 have h1 : (8 : Int) ≤ (s.size : Int) := by omega
 have h2 : (valL s.data.toList : Int) ≤ 4294967296 := by omega
 have hn : zh (valL s.data.toList) ≤ 67108864 := by unfold zh; omega
 have h3 : ((s.size : Int) != 8 + 8 * (zh (valL s.data.toList) : Int)) = true := by rw [bne_iff_ne]; omega
 have H3 := hid h3
 clear h3
 have HW := hid (zp6 (valL s.data.toList))
 have HN := hid (show ∀ W, Calls Tryz.prog 141 #[.string s] W fun e w' => e = .returned (.int .u64 (valL s.data.toList : Nat)) ∧ W = w' from fun W => zgs s W h)
 generalize valL s.data.toList = v at *
 have h3 := H3.out
 generalize zh v = nw at *
 go_enter Tryz.func92, Tryz.ntmps92
 go_wp2_with (first
  | (go_at_call 141; refine (HN.out _).mono ?_; rintro e w' ⟨rfl, rfl⟩)
  | (go_at_call 142; refine (HW.out _ (by omega)).mono ?_; rintro e w' ⟨rfl, rfl⟩))
 go_ret2
 exact ⟨rfl, Below.refl _ _⟩
def zto (l : List UInt8) (w : World) (e : Ending) (w' : World) : Prop :=
 Below w.heap.size w w' ∧ ((zcj l ∧ ∃ g A c, e = .returned (.tuple #[.pointer (some ⟨g, 0, none⟩), .int .i64 0]) ∧ zo w' g A c (zcb l (valL l))) ∨ (¬ zcj l ∧ e = .returned (.tuple #[.pointer none, .int .i64 3])))
theorem z0f (f : Nat → Nat) (k : Nat) : u64s ((List.range (k + 1)).map f) = u64s ((List.range k).map f) ++ [.int .u64 (f k : Nat)] := by simp [u64s, List.range_succ]
theorem z6g (s : ByteArray) (w : World) (h : 8 ≤ s.size) (hv : valL s.data.toList ≤ 4294967296) (hl : s.size = 8 + 8 * zh (valL s.data.toList)) (hs : s.size ≤ 1000000) :
  Calls Tryz.prog 92 #[.string s] w (zto s.data.toList w) := by
 have h1 : (8 : Int) ≤ (s.size : Int) := by omega
 have hsz : s.size = s.data.toList.length := by rw [Array.length_toList]; rfl
 have hgood : zcj s.data.toList ↔ (valL s.data.toList % 64 = 0 ∨ need (zb1 s.data.toList (valL s.data.toList / 64)) ≤ valL s.data.toList % 64) :=
  ⟨fun hg => hg.2.2.2, fun hg => ⟨by omega, hv, by omega, hg⟩⟩
 have hwords : zcj s.data.toList → (List.range (zh (valL s.data.toList))).map (zb1 s.data.toList) = words (zcb s.data.toList (valL s.data.toList)) := fun hg => by
  unfold words
  rw [zcf]
  exact (List.map_congr_left (fun i hi => zpw hg (List.mem_range.1 hi))).symm
 have HG := hid hgood
 have HWS := hid hwords
 have HW := hid (zp6 (valL s.data.toList))
 have HN := hid (show ∀ W, Calls Tryz.prog 141 #[.string s] W fun e w' => e = .returned (.int .u64 (valL s.data.toList : Nat)) ∧ W = w' from fun W => zgs s W h)
 have HN2 := hid (show ∀ (k : Nat) (W : World), k < zh (valL s.data.toList) → Calls Tryz.prog 141 #[.string (s.extract (8 + 8 * k) s.size)] W fun e w' => e = .returned (.int .u64 (zb1 s.data.toList k : Nat)) ∧ W = w' from fun k W hk => by
  have := zgs (s.extract (8 + 8 * k) s.size) W (by rw [ByteArray.size_extract]; omega)
  rwa [z0d s _ k rfl (by omega)] at this)
 have HBL := hid (zcf s.data.toList (valL s.data.toList))
 have HWL := hid (zmg s.data.toList)
 clear hgood hwords
 have hnw : zh (valL s.data.toList) ≤ 125000 := by omega
 generalize hvv : valL s.data.toList = v at *
 have HV := hid hvv
 clear hvv
 have HL := hid hl
 clear hl hsz
 have HNW := hid (show zh v = (v + 63) / 64 from rfl)
 generalize zh v = nw at *
 have h2 : (v : Int) ≤ 4294967296 := by omega
 have h3 : ((s.size : Int) != 8 + 8 * (nw : Int)) = false := by rw [bne_eq_false_iff_eq]; have := HL.out; omega
 obtain ⟨i0, hi0, hz0, hz1, hz2⟩ := info_parts Tryz.infoU64
 go_enter Tryz.func92, Tryz.ntmps92
 go_wp2_with (first
  | (go_at_call 141; refine (HN.out _).mono ?_; rintro e w' ⟨rfl, rfl⟩)
  | (go_at_call 142; refine (HW.out _ (by omega)).mono ?_; rintro e w' ⟨rfl, rfl⟩))
 have hx0 : za (w.alloc (.cells #[.slice none 0 0, .int .i64 (v : Nat)] 152)) w.heap.size 152 #[.slice none 0 0, .int .i64 (v : Nat)] := za.new _ _ _
 go_loopw [6, 34] (fun t6 i wr => ∃ (k : Nat) (A : Option Addr) (c : Nat), k ≤ nw ∧ i = .int .i64 k ∧ za wr w.heap.size 152 #[.slice A k c, .int .i64 (v : Nat)] ∧
   wr.ownsRow w.heap.size 47 1 (.slice A k c) k (u64s ((List.range k).map (zb1 s.data.toList))) ∧ Below w.heap.size w wr) (fun _ i _ => nw - (intOf i).toNat)
 case atStart => exact ⟨0, none, 0, by omega, rfl, hx0, World.ownsRow_nil _ _ _ _, (Below.refl _ _).alloc (Nat.le_refl _) _⟩
 case round =>
  obtain ⟨k, A, c, hk, rfl, hx, hown, hB⟩ := hrel
  have hsz := hB.size
  have hg := hx.lt
  clear hx0
  rcases Nat.lt_or_ge k nw with hlt | hge
  ·have d0 : wr.cell? ⟨w.heap.size, 0, none⟩ = some (.slice A k c) := hx.cell 0
   have f0 := hx.frozen 0
   have hne : (Value.slice A k c).ownBlock ≠ some w.heap.size := hx.ne_own hown (by decide)
   have hki : (k : Int) < (nw : Int) := by omega
   have hsl : 8 + 8 * (k : Int) ≤ (s.size : Int) := by have := HL.out; omega
   have r1 : IntKind.i64.wrap (8 * (k : Int)) = 8 * (k : Int) := by rw [IntKind.wrap_i64]; omega
   have r2 : IntKind.i64.wrap (8 + 8 * (k : Int)) = 8 + 8 * (k : Int) := by rw [IntKind.wrap_i64]; omega
   have r3 : (0 : Int) ≤ 8 + 8 * (k : Int) := by omega
   have r4 : (8 + 8 * (k : Int)).toNat = 8 + 8 * k := by omega
   have hk64 : k + 1 ≤ 125001 := by omega
   go_wp2_with fail
   go_region_law? (first
    | (refine zca (o := ⟨some 47, _, _, _, _, _⟩) rfl 141 #[.string (s.extract (8 + 8 * k) s.size)] (by go_simp) ?_; refine (HN2.out k _ hlt).mono ?_; rintro e w' ⟨rfl, rfl⟩; refine ⟨_, rfl, ?_⟩)
    | (refine zml _ rfl (.tmp 41) (.tmp 48) _ rfl w.heap.size 47 i0 _ 8 Tryz.underlying124 hi0 hz0 hz1 hz2 rfl (.slice A k c) k (u64s ((List.range k).map (zb1 s.data.toList))) (by rfl) (by exact hown.alloc _) (some ⟨wr.heap.size, 0, none⟩) 1 1 [.int .u64 (zb1 s.data.toList k : Nat)] (by rfl) (by exact zc3 _ _ _ _ (by simp)) rfl (by simp [Value.oneCell']) (by simp only [maxLen]; omega) (by omega) (by simp; omega) (wr.heap.size + 1) (by simp) ?_;
       intro A2 c2 w2 hown2 hgr2 hat2;
       have hx2 : za w2 w.heap.size 152 #[.slice A k c, .int .i64 (v : Nat)] := (hx.alloc _).kept (hgr2.block w.heap.size (by simp; omega) (fun e => hne e.symm));
       have e0 : w2.cell? ⟨w.heap.size, 0, none⟩ = some (.slice A k c) := hx2.cell 0;
       have g0 := hx2.frozen 0))
   all_goals
    go_wp2
    go_roundw
    case rel =>
     refine ⟨k + 1, A2, c2, by omega, by go_num, ?_, ?_, ?_⟩
     ·exact hx2.put 0 _
     ·rw [z0f]
      exact zac hown2 ((Only.refl (fun i => i = w.heap.size) _).setCell (.inl rfl) _) (fun j hj hj2 => hx2.ne_own hown2 (by decide) (by rw [hj, hj2]))
     ·exact ((hB.alloc hsz (.cells #[.int .u64 (zb1 s.data.toList k : Nat)] 47)).drew.grown hgr2 (by simp; omega) (fun j hj => (hown.lt j hj).1)).setCell (Nat.le_refl _) _
    case measure => simp [intOf]; omega
  ·obtain rfl : k = nw := by omega
   have d0 : wr.cell? ⟨w.heap.size, 0, none⟩ = some (.slice A k c) := hx.cell 0
   have d1 : wr.cell? ⟨w.heap.size, 1, none⟩ = some (.int .i64 (v : Nat)) := hx.cell 1
   have hki : ¬ ((k : Int) < (k : Int)) := by omega
   have hkn := HNW.out
   have fin : ∀ w', Below wr.heap.size wr w' → zcj s.data.toList → zto s.data.toList w (.returned (.tuple #[.pointer (some ⟨w.heap.size, 0, none⟩), .int .i64 0])) w' := by
    intro w' hw' hg
    refine ⟨hB.trans (hw'.mono hsz), .inl ⟨hg, w.heap.size, A, c, rfl, ?_⟩⟩
    refine zo.mk ?_ ?_ ?_
    ·rw [HV.out, HBL.out, show zh v = k from hkn.symm]; exact hx.below hw'
    ·have hl0 := (zbw hown).below hw'
     have hws := HWS.out hg
     rw [HV.out, ← hws]; exact hl0
    ·rw [HV.out, HBL.out]; exact hv
   rcases Nat.eq_zero_or_pos (v % 64) with hm | hm
   ·have hmi : (v : Int) % 64 = 0 := by omega
    have hg : zcj s.data.toList := HG.out.2 (.inl hm)
    go_wp2_with fail
    go_quiet (fail)
    go_wp2
    go_ret2
    exact fin _ (below_drewN (Below.refl _ _) _) hg
   ·have hmi : ((0 : Int) < (v : Int) % 64) := by omega
    have hkp : k = v / 64 + 1 := by omega
    obtain ⟨q, hq⟩ : ∃ q, q = v / 64 := ⟨_, rfl⟩
    rw [← hq] at hkp
    have HQ := hid hq
    clear hq hkn
    subst hkp
    obtain ⟨g1, cap, hA, _, hlt1⟩ := hown.form (by omega)
    injection hA with hA1 _ hA2
    subst hA1 hA2
    have cw : wr.cell? ⟨g1, q, none⟩ = some (.int .u64 (zb1 s.data.toList q : Nat)) := by
     rw [hown.cellAt q (by omega)]
     simp [u64s]
    have hw64 := HWL.out q
    obtain ⟨r, hr⟩ : ∃ r, r = v % 64 := ⟨_, rfl⟩
    have hmod : (v : Int) % 64 = (r : Int) := by omega
    have hr0 : (0 : Int) < (r : Int) := by omega
    have hr1 : 0 < r := by omega
    have HR := hid hr
    clear hmi hr
    have r1 : IntKind.i64.wrap ((q : Int) + 1 - 1) = (q : Int) := by rw [IntKind.wrap_i64]; omega
    have r2 : IntKind.i64.wrap (q : Int) = (q : Int) := by rw [IntKind.wrap_i64]; omega
    have r3 : (0 : Int) ≤ (q : Int) := by omega
    have r4 : (q : Int) < (q : Int) + 1 := by omega
    rcases Nat.lt_or_ge r (need (zb1 s.data.toList q)) with hbad | hok
    ·have hg : ¬ zcj s.data.toList := fun h => by have h1 := HG.out.1 h; rw [← HQ.out] at h1; have h2 := HR.out; omega
     have hb2 : (r : Int) < (need (zb1 s.data.toList q) : Int) := by omega
     go_wp2_with fail
     go_quiet ((go_at_call 130; exact zax (zed _ _ hw64)))
     go_wp2
     go_ret2
     exact ⟨below_drewN hB _, .inr ⟨hg, rfl⟩⟩
    ·have hg : zcj s.data.toList := HG.out.2 (.inr (by rw [← HQ.out, ← HR.out]; exact hok))
     have hb2 : (need (zb1 s.data.toList q) : Int) ≤ (r : Int) := by omega
     go_wp2_with fail
     go_quiet ((go_at_call 130; exact zax (zed _ _ hw64)))
     go_wp2
     go_ret2
     exact fin _ (below_drewN (Below.refl _ _) _) hg
theorem L.ztp : ∀ (l : List Nat) (j : Nat), (∀ b ∈ l, b < 256) → nest l / 256 ^ j % 256 = l[j]?.getD 0
 | [], j, _ => by simp [nest]
 | b :: l, 0, h => by have := h b List.mem_cons_self; simp [nest]; omega
 | b :: l, j + 1, h => by
   have ih := L.ztp l j (fun c hc => h c (List.mem_cons_of_mem _ hc))
   have hb := h b List.mem_cons_self
   rw [Nat.pow_succ, Nat.mul_comm, ← Nat.div_div_eq_div_mul, show nest (b :: l) / 256 = nest l from by simp only [nest]; omega, ih]
   simp
theorem L.z6h (l : List UInt8) (j : Nat) (hj : j < 8) (h : 8 ≤ l.length) : valL l / 256 ^ j = valL l / 256 ^ (j + 1) * 256 + (l[j]'(by omega)).toNat := by
 have h1 := L.ztp (nats (l.take 8)) j (zh8 _)
 rw [nats, List.getElem?_map, List.getElem?_take, if_pos hj, List.getElem?_eq_getElem (by omega)] at h1
 simp only [Option.map_some, Option.getD_some] at h1
 have h2 : valL l = nest ((l.take 8).map UInt8.toNat) := rfl
 rw [← h2] at h1
 rw [Nat.pow_succ, ← Nat.div_div_eq_div_mul]
 omega
theorem L.zlk (l : List UInt8) : valL l < 256 ^ 8 := by
 have h := zh6 (nats (l.take 8)) (zh8 _)
 have h2 : (nats (l.take 8)).length ≤ 8 := by simp [nats, List.length_take]; omega
 have h3 : (256 : Nat) ^ (nats (l.take 8)).length ≤ 256 ^ 8 := Nat.pow_le_pow_right (by omega) h2
 unfold valL; omega
theorem z0g (s : ByteArray) (w : World) (hs : s.size ≤ 1000000) :
  Calls Tryz.prog 92 #[.string s] w (zto s.data.toList w) := by
 have hsz : s.size = s.data.toList.length := by rw [Array.length_toList]; rfl
 rcases Nat.lt_or_ge s.size 8 with h | h
 ·refine (z2v s w h).mono ?_
  rintro e w' ⟨rfl, hB⟩
  exact ⟨hB, .inr ⟨fun hg => by have := hg.1; omega, rfl⟩⟩
 ·rcases Nat.lt_or_ge 4294967296 (valL s.data.toList) with hv | hv
  ·refine (z2w s w h hv).mono ?_
   rintro e w' ⟨rfl, hB⟩
   exact ⟨hB, .inr ⟨fun hg => by have := hg.2.1; omega, rfl⟩⟩
  ·by_cases hl : s.size = 8 + 8 * zh (valL s.data.toList)
   ·exact z6g s w h hv hl hs
   ·refine (z0e s w h hv hl hs).mono ?_
    rintro e w' ⟨rfl, hB⟩
    exact ⟨hB, .inr ⟨fun hg => by have := hg.2.2.1; omega, rfl⟩⟩
end Go.Proofs.YtgpbpgpolpakjaaGreatDoor
