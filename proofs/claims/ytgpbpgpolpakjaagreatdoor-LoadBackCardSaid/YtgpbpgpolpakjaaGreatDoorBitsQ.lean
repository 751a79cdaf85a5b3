/- The texts BitsJ, BitsK, in one. -/
import Derived.Test.YtgpbpgpolpakjaaGreatDoorBitsP
import Derived.Test.YtgpbpgpolpakjaaGreatDoorMaths
import Derived.Lib.IndexBytes
/- Walks: the row of some bytes. -/



set_option linter.unusedVariables false
set_option linter.unusedSimpArgs false
set_option maxRecDepth 100000
namespace Go.Proofs.YtgpbpgpolpakjaaGreatDoor
open Go.RowKit L

theorem leTo_val (s : ByteArray) : leTo s 8 = valL s.data.toList := rfl
theorem leTo_word (s : ByteArray) (a i : Nat) (ha : a = 8 + 8 * i) (h : a ≤ s.size) : leTo (s.extract a s.size) 8 = wordL s.data.toList i := by
  subst ha
  unfold leTo wordL
  have : (s.extract (8 + 8 * i) s.size).data.toList = s.data.toList.drop (8 + 8 * i) := by
    rw [ByteArray.data_extract, Array.toList_extract]
    simp [List.extract]
    apply List.take_of_length_le
    rw [List.length_drop]
    have : s.data.size = s.size := rfl
    simp [this]
  rw [this]

set_option maxHeartbeats 400000 in
theorem of_small (s : ByteArray) (w : World) (h : s.size < 8) :
    Calls Tryz.prog 92 #[.string s] w fun e w' => e = .returned (.tuple #[.pointer none, .int .i64 3]) ∧ Below w.heap.size w w' := by
  have h1 : (s.size : Int) < 8 := by omega
  go_enter Tryz.func92, Tryz.ntmps92
  go_wp2
  go_ret2
  exact ⟨rfl, Below.refl _ _⟩

set_option maxHeartbeats 400000 in
theorem of_large (s : ByteArray) (w : World) (h : 8 ≤ s.size) (hv : 4294967296 < valL s.data.toList) :
    Calls Tryz.prog 92 #[.string s] w fun e w' => e = .returned (.tuple #[.pointer none, .int .i64 3]) ∧ Below w.heap.size w w' := by
  have h1 : (8 : Int) ≤ (s.size : Int) := by omega
  have h2 : (4294967296 : Int) < (valL s.data.toList : Int) := by omega
  go_enter Tryz.func92, Tryz.ntmps92
  go_wp2_with (go_at_call 141; refine (number_any s _ h).mono ?_; rw [leTo_val]; rintro e w' ⟨rfl, rfl⟩)
  go_ret2
  exact ⟨rfl, Below.refl _ _⟩

set_option maxHeartbeats 400000 in
theorem of_length (s : ByteArray) (w : World) (h : 8 ≤ s.size) (hv : valL s.data.toList ≤ 4294967296) (hl : s.size ≠ 8 + 8 * nwords (valL s.data.toList)) (hs : s.size ≤ 1000000) :
    Calls Tryz.prog 92 #[.string s] w fun e w' => e = .returned (.tuple #[.pointer none, .int .i64 3]) ∧ Below w.heap.size w w' := by
  have h1 : (8 : Int) ≤ (s.size : Int) := by omega
  have h2 : (valL s.data.toList : Int) ≤ 4294967296 := by omega
  have hn : nwords (valL s.data.toList) ≤ 67108864 := by unfold nwords; omega
  have h3 : ((s.size : Int) != 8 + 8 * (nwords (valL s.data.toList) : Int)) = true := by rw [bne_iff_ne]; omega
  have H3 := hid h3
  clear h3
  have HW := hid (words_any (valL s.data.toList))
  have HN := hid (show ∀ W, Calls Tryz.prog 141 #[.string s] W fun e w' => e = .returned (.int .u64 (valL s.data.toList : Nat)) ∧ W = w' from fun W => number_any s W h)
  generalize valL s.data.toList = v at *
  have h3 := H3.out
  generalize nwords v = nw at *
  go_enter Tryz.func92, Tryz.ntmps92
  go_wp2_with (first
    | (go_at_call 141; refine (HN.out _).mono ?_; rintro e w' ⟨rfl, rfl⟩)
    | (go_at_call 142; refine (HW.out _ (by omega)).mono ?_; rintro e w' ⟨rfl, rfl⟩))
  go_ret2
  exact ⟨rfl, Below.refl _ _⟩

/-- What Of leaves. -/
def OfPost (l : List UInt8) (w : World) (e : Ending) (w' : World) : Prop :=
  Below w.heap.size w w' ∧ ((goodL l ∧ ∃ g A c, e = .returned (.tuple #[.pointer (some ⟨g, 0, none⟩), .int .i64 0]) ∧ RowAt w' g A c (bitsL l (valL l))) ∨ (¬ goodL l ∧ e = .returned (.tuple #[.pointer none, .int .i64 3])))

theorem u64s_snoc (f : Nat → Nat) (k : Nat) : u64s ((List.range (k + 1)).map f) = u64s ((List.range k).map f) ++ [.int .u64 (f k : Nat)] := by simp [u64s, List.range_succ]

set_option maxHeartbeats 4000000 in
theorem of_main (s : ByteArray) (w : World) (h : 8 ≤ s.size) (hv : valL s.data.toList ≤ 4294967296) (hl : s.size = 8 + 8 * nwords (valL s.data.toList)) (hs : s.size ≤ 1000000) :
    Calls Tryz.prog 92 #[.string s] w (OfPost s.data.toList w) := by
  have h1 : (8 : Int) ≤ (s.size : Int) := by omega
  have hsz : s.size = s.data.toList.length := by rw [Array.length_toList]; rfl
  have hgood : goodL s.data.toList ↔ (valL s.data.toList % 64 = 0 ∨ need (wordL s.data.toList (valL s.data.toList / 64)) ≤ valL s.data.toList % 64) :=
    ⟨fun hg => hg.2.2.2, fun hg => ⟨by omega, hv, by omega, hg⟩⟩
  have hwords : goodL s.data.toList → (List.range (nwords (valL s.data.toList))).map (wordL s.data.toList) = words (bitsL s.data.toList (valL s.data.toList)) := fun hg => by
    unfold words
    rw [bitsL_length]
    exact (List.map_congr_left (fun i hi => good_word hg (List.mem_range.1 hi))).symm
  have HG := hid hgood
  have HWS := hid hwords
  have HW := hid (words_any (valL s.data.toList))
  have HN := hid (show ∀ W, Calls Tryz.prog 141 #[.string s] W fun e w' => e = .returned (.int .u64 (valL s.data.toList : Nat)) ∧ W = w' from fun W => number_any s W h)
  have HN2 := hid (show ∀ (k : Nat) (W : World), k < nwords (valL s.data.toList) → Calls Tryz.prog 141 #[.string (s.extract (8 + 8 * k) s.size)] W fun e w' => e = .returned (.int .u64 (wordL s.data.toList k : Nat)) ∧ W = w' from fun k W hk => by
    have := number_any (s.extract (8 + 8 * k) s.size) W (by rw [ByteArray.size_extract]; omega)
    rwa [leTo_word s _ k rfl (by omega)] at this)
  have HBL := hid (bitsL_length s.data.toList (valL s.data.toList))
  have HWL := hid (wordL_lt s.data.toList)
  clear hgood hwords
  have hnw : nwords (valL s.data.toList) ≤ 125000 := by omega
  generalize hvv : valL s.data.toList = v at *
  have HV := hid hvv
  clear hvv
  have HL := hid hl
  clear hl hsz
  have HNW := hid (show nwords v = (v + 63) / 64 from rfl)
  generalize nwords v = nw at *
  have h2 : (v : Int) ≤ 4294967296 := by omega
  have h3 : ((s.size : Int) != 8 + 8 * (nw : Int)) = false := by rw [bne_eq_false_iff_eq]; have := HL.out; omega
  obtain ⟨i0, hi0, hz0, hz1, hz2⟩ := info_parts Tryz.infoU64
  go_enter Tryz.func92, Tryz.ntmps92
  go_wp2_with (first
    | (go_at_call 141; refine (HN.out _).mono ?_; rintro e w' ⟨rfl, rfl⟩)
    | (go_at_call 142; refine (HW.out _ (by omega)).mono ?_; rintro e w' ⟨rfl, rfl⟩))
  have hx0 : BlkIs (w.alloc (.cells #[.slice none 0 0, .int .i64 (v : Nat)] 152)) w.heap.size 152 #[.slice none 0 0, .int .i64 (v : Nat)] := BlkIs.new _ _ _
  go_loopw [6, 34] (fun t6 i wr => ∃ (k : Nat) (A : Option Addr) (c : Nat), k ≤ nw ∧ i = .int .i64 k ∧ BlkIs wr w.heap.size 152 #[.slice A k c, .int .i64 (v : Nat)] ∧
      wr.ownsRow w.heap.size 47 1 (.slice A k c) k (u64s ((List.range k).map (wordL s.data.toList))) ∧ Below w.heap.size w wr) (fun _ i _ => nw - (intOf i).toNat)
  case atStart => exact ⟨0, none, 0, by omega, rfl, hx0, World.ownsRow_nil _ _ _ _, (Below.refl _ _).alloc (Nat.le_refl _) _⟩
  case round =>
    obtain ⟨k, A, c, hk, rfl, hx, hown, hB⟩ := hrel
    have hsz := hB.size
    have hg := hx.lt
    clear hx0
    rcases Nat.lt_or_ge k nw with hlt | hge
    · have d0 : wr.cell? ⟨w.heap.size, 0, none⟩ = some (.slice A k c) := hx.cell 0
      have f0 := hx.frozen 0
      have hne : (Value.slice A k c).ownBlock ≠ some w.heap.size := hx.ne_own hown (by decide)
      have hki : (k : Int) < (nw : Int) := by omega
      have hsl : 8 + 8 * (k : Int) ≤ (s.size : Int) := by have := HL.out; omega
      have r1 : IntKind.i64.wrap (8 * (k : Int)) = 8 * (k : Int) := by rw [IntKind.wrap_i64]; omega
      have r2 : IntKind.i64.wrap (8 + 8 * (k : Int)) = 8 + 8 * (k : Int) := by rw [IntKind.wrap_i64]; omega
      have r3 : (0 : Int) ≤ 8 + 8 * (k : Int) := by omega
      have r4 : (8 + 8 * (k : Int)).toNat = 8 + 8 * k := by omega
      have hk64 : k + 1 ≤ 125001 := by omega
      go_wp2_with fail
      go_region_law? (first
        | (refine step_call (o := ⟨some 47, _, _, _, _, _⟩) rfl 141 #[.string (s.extract (8 + 8 * k) s.size)] (by go_simp) ?_; refine (HN2.out k _ hlt).mono ?_; rintro e w' ⟨rfl, rfl⟩; refine ⟨_, rfl, ?_⟩)
        | (refine step_append_more _ rfl (.tmp 41) (.tmp 48) _ rfl w.heap.size 47 i0 _ 8 Tryz.underlying124 hi0 hz0 hz1 hz2 rfl (.slice A k c) k (u64s ((List.range k).map (wordL s.data.toList))) (by rfl) (by exact hown.alloc _) (some ⟨wr.heap.size, 0, none⟩) 1 1 [.int .u64 (wordL s.data.toList k : Nat)] (by rfl) (by exact lst_one _ _ _ _ (by simp)) rfl (by simp [Value.oneCell']) (by simp only [maxLen]; omega) (by omega) (by simp; omega) (wr.heap.size + 1) (by simp) ?_;
           intro A2 c2 w2 hown2 hgr2 hat2;
           have hx2 : BlkIs w2 w.heap.size 152 #[.slice A k c, .int .i64 (v : Nat)] := (hx.alloc _).kept (hgr2.block w.heap.size (by simp; omega) (fun e => hne e.symm));
           have e0 : w2.cell? ⟨w.heap.size, 0, none⟩ = some (.slice A k c) := hx2.cell 0;
           have g0 := hx2.frozen 0))
      all_goals
        go_wp2
        go_roundw
        case rel =>
          refine ⟨k + 1, A2, c2, by omega, by go_num, ?_, ?_, ?_⟩
          · exact hx2.put 0 _
          · rw [u64s_snoc]
            exact own_only hown2 ((Only.refl (fun i => i = w.heap.size) _).setCell (.inl rfl) _) (fun j hj hj2 => hx2.ne_own hown2 (by decide) (by rw [hj, hj2]))
          · exact ((hB.alloc hsz (.cells #[.int .u64 (wordL s.data.toList k : Nat)] 47)).drew.grown hgr2 (by simp; omega) (fun j hj => (hown.lt j hj).1)).setCell (Nat.le_refl _) _
        case measure => simp [intOf]; omega
    · obtain rfl : k = nw := by omega
      have d0 : wr.cell? ⟨w.heap.size, 0, none⟩ = some (.slice A k c) := hx.cell 0
      have d1 : wr.cell? ⟨w.heap.size, 1, none⟩ = some (.int .i64 (v : Nat)) := hx.cell 1
      have hki : ¬ ((k : Int) < (k : Int)) := by omega
      have hkn := HNW.out
      have fin : ∀ w', Below wr.heap.size wr w' → goodL s.data.toList → OfPost s.data.toList w (.returned (.tuple #[.pointer (some ⟨w.heap.size, 0, none⟩), .int .i64 0])) w' := by
        intro w' hw' hg
        refine ⟨hB.trans (hw'.mono hsz), .inl ⟨hg, w.heap.size, A, c, rfl, ?_⟩⟩
        refine RowAt.mk ?_ ?_ ?_
        · rw [HV.out, HBL.out, show nwords v = k from hkn.symm]; exact hx.below hw'
        · have hl0 := (own_lst hown).below hw'
          have hws := HWS.out hg
          rw [HV.out, ← hws]; exact hl0
        · rw [HV.out, HBL.out]; exact hv
      rcases Nat.eq_zero_or_pos (v % 64) with hm | hm
      · have hmi : (v : Int) % 64 = 0 := by omega
        have hg : goodL s.data.toList := HG.out.2 (.inl hm)
        go_wp2_with fail
        go_quiet (fail)
        go_wp2
        go_ret2
        exact fin _ (below_drewN (Below.refl _ _) _) hg
      · have hmi : ((0 : Int) < (v : Int) % 64) := by omega
        have hkp : k = v / 64 + 1 := by omega
        obtain ⟨q, hq⟩ : ∃ q, q = v / 64 := ⟨_, rfl⟩
        rw [← hq] at hkp
        have HQ := hid hq
        clear hq hkn
        subst hkp
        obtain ⟨g1, cap, hA, _, hlt1⟩ := hown.form (by omega)
        injection hA with hA1 _ hA2
        subst hA1 hA2
        have cw : wr.cell? ⟨g1, q, none⟩ = some (.int .u64 (wordL s.data.toList q : Nat)) := by
          rw [hown.cellAt q (by omega)]
          simp [u64s]
        have hw64 := HWL.out q
        obtain ⟨r, hr⟩ : ∃ r, r = v % 64 := ⟨_, rfl⟩
        have hmod : (v : Int) % 64 = (r : Int) := by omega
        have hr0 : (0 : Int) < (r : Int) := by omega
        have hr1 : 0 < r := by omega
        have HR := hid hr
        clear hmi hr
        have r1 : IntKind.i64.wrap ((q : Int) + 1 - 1) = (q : Int) := by rw [IntKind.wrap_i64]; omega
        have r2 : IntKind.i64.wrap (q : Int) = (q : Int) := by rw [IntKind.wrap_i64]; omega
        have r3 : (0 : Int) ≤ (q : Int) := by omega
        have r4 : (q : Int) < (q : Int) + 1 := by omega
        rcases Nat.lt_or_ge r (need (wordL s.data.toList q)) with hbad | hok
        · have hg : ¬ goodL s.data.toList := fun h => by have h1 := HG.out.1 h; rw [← HQ.out] at h1; have h2 := HR.out; omega
          have hb2 : (r : Int) < (need (wordL s.data.toList q) : Int) := by omega
          go_wp2_with fail
          go_quiet ((go_at_call 130; exact quiet_left (wneed_any _ _ hw64)))
          go_wp2
          go_ret2
          exact ⟨below_drewN hB _, .inr ⟨hg, rfl⟩⟩
        · have hg : goodL s.data.toList := HG.out.2 (.inr (by rw [← HQ.out, ← HR.out]; exact hok))
          have hb2 : (need (wordL s.data.toList q) : Int) ≤ (r : Int) := by omega
          go_wp2_with fail
          go_quiet ((go_at_call 130; exact quiet_left (wneed_any _ _ hw64)))
          go_wp2
          go_ret2
          exact fin _ (below_drewN (Below.refl _ _) _) hg

end Go.Proofs.YtgpbpgpolpakjaaGreatDoor

/- Walks: the reference's row of some bytes. -/

set_option linter.unusedVariables false
set_option linter.unusedSimpArgs false
set_option maxRecDepth 100000
namespace Go.Proofs.YtgpbpgpolpakjaaGreatDoor
open Go.RowKit L

/-- What the reference's Of leaves. -/
def ROfPost (l : List UInt8) (w : World) (e : Ending) (w' : World) : Prop :=
  Below w.heap.size w w' ∧ ((goodL l ∧ ∃ A c, e = .returned (.tuple #[.slice A (bitsL l (valL l)).length c, .bool true]) ∧ Lst w' A (bools (bitsL l (valL l)))) ∨ (¬ goodL l ∧ ∃ x, e = .returned (.tuple #[x, .bool false])))

theorem L.nest_dig : ∀ (l : List Nat) (j : Nat), (∀ b ∈ l, b < 256) → nest l / 256 ^ j % 256 = l[j]?.getD 0
  | [], j, _ => by simp [nest]
  | b :: l, 0, h => by have := h b List.mem_cons_self; simp [nest]; omega
  | b :: l, j + 1, h => by
    have ih := L.nest_dig l j (fun c hc => h c (List.mem_cons_of_mem _ hc))
    have hb := h b List.mem_cons_self
    rw [Nat.pow_succ, Nat.mul_comm, ← Nat.div_div_eq_div_mul, show nest (b :: l) / 256 = nest l from by simp only [nest]; omega, ih]
    simp

theorem L.val_div (l : List UInt8) (j : Nat) (hj : j < 8) (h : 8 ≤ l.length) : valL l / 256 ^ j = valL l / 256 ^ (j + 1) * 256 + (l[j]'(by omega)).toNat := by
  have h1 := L.nest_dig (nats (l.take 8)) j (nats_lt _)
  rw [nats, List.getElem?_map, List.getElem?_take, if_pos hj, List.getElem?_eq_getElem (by omega)] at h1
  simp only [Option.map_some, Option.getD_some] at h1
  have h2 : valL l = nest ((l.take 8).map UInt8.toNat) := rfl
  rw [← h2] at h1
  rw [Nat.pow_succ, ← Nat.div_div_eq_div_mul]
  omega
theorem L.valL_lt (l : List UInt8) : valL l < 256 ^ 8 := by
  have h := nest_lt (nats (l.take 8)) (nats_lt _)
  have h2 : (nats (l.take 8)).length ≤ 8 := by simp [nats, List.length_take]; omega
  have h3 : (256 : Nat) ^ (nats (l.take 8)).length ≤ 256 ^ 8 := Nat.pow_le_pow_right (by omega) h2
  unfold valL; omega

theorem u8_bit1 (x i : Nat) (hx : x < 256) : (bits BinOp.and IntKind.u8 ((x : Int) / 2 ^ i) 1 == 1) = x.testBit i := by
  have e : (x : Int) / 2 ^ i = ((x / 2 ^ i : Nat) : Int) := by simp
  rw [e]
  have e2 := u8_and_nat (x / 2 ^ i) 1 (Nat.lt_of_le_of_lt (Nat.div_le_self _ _) hx) (by omega)
  have e3 : bits BinOp.and IntKind.u8 ((x / 2 ^ i : Nat) : Int) 1 = ((x / 2 ^ i % 2 : Nat) : Int) := by
    have := e2; rw [Nat.and_one_is_mod] at this; exact this
  rw [e3, Nat.testBit_eq_decide_div_mod_eq]
  rcases Nat.mod_two_eq_zero_or_one (x / 2 ^ i) with h0 | h0 <;> rw [h0] <;> rfl

theorem bytes_toList (s : ByteArray) (j : Nat) (h : j < s.size) : s.data.toList[j]'(by simpa using h) = s[j] := rfl

set_option maxHeartbeats 1000000 in
theorem refOf_bad (s : ByteArray) (w : World) (h : s.size < 8 ∨ s.size % 8 ≠ 0) :
    Calls Tryz.prog 40 #[.string s] w (ROfPost s.data.toList w) := by
  have hsz : s.size = s.data.toList.length := by rw [Array.length_toList]; rfl
  have HB := hid (show ¬ goodL s.data.toList from fun hg => by
    have h1 := hg.1
    have h2 := hg.2.2.1
    omega)
  clear hsz
  rcases Nat.lt_or_ge s.size 8 with h1 | h1
  · have h2 : (s.size : Int) < 8 := by omega
    go_enter Tryz.func40, Tryz.ntmps40
    go_wp2
    go_ret2
    exact ⟨Below.refl _ _, .inr ⟨HB.out, _, rfl⟩⟩
  · have h2 : (8 : Int) ≤ (s.size : Int) := by omega
    have h3 : ((s.size : Int) % 8 != 0) = true := by rw [bne_iff_ne]; omega
    go_enter Tryz.func40, Tryz.ntmps40
    go_wp2
    go_ret2
    exact ⟨Below.refl _ _, .inr ⟨HB.out, _, rfl⟩⟩

set_option maxHeartbeats 4000000 in
theorem refOf_main (s : ByteArray) (w : World) (h : 8 ≤ s.size) (h8 : s.size % 8 = 0) (hs : s.size ≤ 100000) :
    Calls Tryz.prog 40 #[.string s] w (ROfPost s.data.toList w) := by
  have hsz : s.size = s.data.toList.length := by rw [Array.length_toList]; rfl
  have h2 : (8 : Int) ≤ (s.size : Int) := by omega
  have h3 : ((s.size : Int) % 8 != 0) = false := by rw [bne_eq_false_iff_eq]; omega
  have HS := hid hsz
  have H8 := hid h8
  clear hsz h8
  have HV := hid (L.valL_lt s.data.toList)
  obtain ⟨i0, hi0, hz0, hz1, hz2⟩ := info_parts Tryz.infoBool
  go_enter Tryz.func40, Tryz.ntmps40
  go_wp2_with fail
  go_loop [4, 5] (fun n i => ∃ k : Nat, k ≤ 8 ∧ i = .int .i64 ((k : Int) - 1) ∧ n = .int .i64 (valL s.data.toList / 256 ^ k : Nat)) (fun _ i => (intOf i + 1).toNat)
  case atStart => exact ⟨8, by omega, rfl, by rw [Nat.div_eq_of_lt HV.out]; rfl⟩
  case round =>
    obtain ⟨k, hk, rfl, rfl⟩ := hrel
    rcases Nat.eq_zero_or_pos k with h0 | h0
    · subst h0
      rw [Nat.pow_zero, Nat.div_one]
      have HG1 := hid (show ∀ m, m < valL s.data.toList → m = 8 * (s.size - 8) → ¬ goodL s.data.toList from fun m h1 h2 hg => by
        have h3 := hg.2.2.1
        rw [← HS.out] at h3
        unfold nwords at h3
        omega)
      have HG2 := hid (show valL s.data.toList ≤ 8 * (s.size - 8) → (goodL s.data.toList ↔ (⟨(rowBytes (bitsL s.data.toList (valL s.data.toList))).toArray⟩ : ByteArray) = s) from fun h1 => by
        constructor
        · intro hg; rw [good_bytes hg]
        · intro he
          rw [good_iff]
          refine ⟨bitsL s.data.toList (valL s.data.toList), by rw [bitsL_length]; omega, ?_⟩
          have := congrArg (fun b : ByteArray => b.data.toList) he
          simpa using this.symm)
      have HBL := hid (bitsL_length s.data.toList)
      have HBS := hid (bitsL_succ s.data.toList)
      generalize hvv : valL s.data.toList = v at *
      have HVV := hid hvv
      clear hvv
      go_wp2_with fail
      go_loopw [6, 7] (fun l i wr => ∃ (m : Nat) (A : Option Addr) (c : Nat), m ≤ v ∧ m ≤ 8 * (s.size - 8) ∧ i = .int .i64 m ∧ l = .slice A m c ∧ wr.ownsRow w.heap.size 4 1 (.slice A m c) m (bools (bitsL s.data.toList m)) ∧ Below w.heap.size w wr) (fun _ i _ => v - (intOf i).toNat)
      case atStart => exact ⟨0, none, 0, by omega, by omega, rfl, rfl, World.ownsRow_nil _ _ _ _, Below.refl _ _⟩
      case round =>
        obtain ⟨m, A, c, hm1, hm2, rfl, rfl, hown, hB⟩ := hrel
        have hsz := hB.size
        rcases Nat.lt_or_ge m v with hlt | hge
        · have hlti : (m : Int) < (v : Int) := by omega
          rcases Nat.lt_or_ge m (8 * (s.size - 8)) with hlt2 | hge2
          · have hlt2i : (m : Int) < 8 * ((s.size : Int) - 8) := by omega
            have hix : (8 + m / 8) < s.size := by omega
            have r1 : IntKind.i64.wrap (8 + (m : Int) / 8) = 8 + (m : Int) / 8 := by rw [IntKind.wrap_i64]; omega
            have r3 : (0 : Int) ≤ 8 + (m : Int) / 8 := by omega
            have r4 : 8 + (m : Int) / 8 < (s.size : Int) := by omega
            have r5 : (8 + (m : Int) / 8).toNat = 8 + m / 8 := by omega
            have hb := u8_bit1 (s[8 + m / 8]'hix).toNat (m % 8) (UInt8.toNat_lt _)
            go_wp2_with (first
              | (at_builtin
                 go_must (refine wpList_append_more _ rfl (.tmp 43) (.tmp 54) _ rfl w.heap.size 4 i0 _ 1 Tryz.underlying31 hi0 hz0 hz1 hz2 rfl (.slice A m c) m (bools (bitsL s.data.toList m)) rfl ?hown (some ⟨wr.heap.size, 0, none⟩) 1 1 [.bool ((s[8 + m / 8]'hix).toNat.testBit (m % 8))] rfl ?hls rfl ?h1 ?h63 ?hby ?hbs _ rfl ?_)
                 go_must (case hown => exact hown.alloc _)
                 go_must (case hls => exact lst_one _ _ _ _ rfl)
                 go_must (case h1 => simp [Value.oneCell'])
                 go_must (case h63 => simp only [maxLen]; omega)
                 go_must (case hby => omega)
                 go_must (case hbs => simp; omega)
                 intro A2 c2 w2 hown2 hgr2 hat2))
            have hB2 : Below w.heap.size w w2 := (hB.alloc hsz _).grown hgr2 (by simp; omega) (fun j hj => (hown.lt j hj).1)
            have hown3 : w2.ownsRow w.heap.size 4 1 (.slice A2 (m + 1) c2) (m + 1) (bools (bitsL s.data.toList (m + 1))) := by
              have hx : s.data.toList[8 + m / 8]?.getD 0 = s[8 + m / 8]'hix := by
                rw [List.getElem?_eq_getElem (by rw [← HS.out]; exact hix), Option.getD_some]; rfl
              rw [HBS.out, bools_append, hx]; exact hown2
            clear hown2 hgr2 hat2
            go_roundw
            case rel => exact ⟨m + 1, A2, c2, by omega, by omega, by go_num, rfl, hown3, hB2⟩
            case measure => simp [intOf] <;> omega
          · have hge2i : 8 * ((s.size : Int) - 8) ≤ (m : Int) := by omega
            have hne : ((m : Int) == (v : Int)) = false := by rw [beq_eq_false_iff_ne]; omega
            have hng := HG1.out m hlt (by omega)
            clear HG1 HG2
            go_wp2_with fail
            go_ret2
            exact ⟨hB, .inr ⟨hng, _, rfl⟩⟩
        · obtain rfl : m = v := by omega
          have hlst := own_lst hown
          have hlen : (bitsL s.data.toList m).length ≤ 1000000 := by rw [HBL.out]; omega
          have hby := refBytes_any A c (bitsL s.data.toList m) wr hlst hlen
          rw [HBL.out] at hby
          have hgg := HG2.out (by omega)
          have fin : ∀ w', Below wr.heap.size wr w' → Lst w' A (bools (bitsL s.data.toList m)) := fun w' h => hlst.below h
          clear HG1 HG2
          generalize rowBytes (bitsL s.data.toList m) = rb at *
          go_wp2_with fail
          refine hby.mono ?_
          rintro e w3 ⟨rfl, hB3⟩
          go_wp2_with fail
          go_ret2
          refine ⟨hB.trans (hB3.mono hsz), ?_⟩
          rw [ByteArray.toList_eq]
          have hrb : (⟨rb.toArray⟩ : ByteArray) = s ↔ rb = s.data.toList :=
            ⟨fun h => by have := congrArg (fun b : ByteArray => b.data.toList) h; simpa using this, fun h => by rw [h]⟩
          rw [hrb] at hgg
          by_cases hr : rb = s.data.toList
          · rw [HVV.out, HBL.out]
            refine .inl ⟨hgg.2 hr, A, c, ?_, fin w3 hB3⟩
            rw [beq_iff_eq.2 hr]
            rfl
          · refine .inr ⟨fun h => hr (hgg.1 h), .slice A m c, ?_⟩
            rw [beq_eq_false_iff_ne.2 hr]
            rfl
    · obtain ⟨j, rfl⟩ : ∃ j, k = j + 1 := ⟨k - 1, by omega⟩
      have HD := hid (L.val_div s.data.toList j (by omega) (by have := HS.out; omega))
      have hjs : j < s.size := by omega
      rw [show ((j + 1 : Nat) : Int) - 1 = (j : Int) from by omega]
      have hle : valL s.data.toList / 256 ^ (j + 1) ≤ valL s.data.toList := Nat.div_le_self _ _
      have HLE := hid hle
      clear hle
      have hb : (s[j].toNat : Int) < 256 := by have := UInt8.toNat_lt s[j]; omega
      generalize hq : valL s.data.toList / 256 ^ (j + 1) = q at *
      have HQ := hid hq
      clear hq
      rcases Nat.lt_or_ge 4294967296 q with hlt | hge
      · have hlt' : (4294967296 : Int) < (q : Int) := by omega
        go_wp2
        go_ret2
        exact ⟨Below.refl _ _, .inr ⟨fun hg => by have := hg.2.1; have := HLE.out; omega, _, rfl⟩⟩
      · have hge' : (q : Int) ≤ 4294967296 := by omega
        go_wp2
        go_round
        case rel => exact ⟨j, by omega, by simp, by rw [HD.out]; simp; rfl⟩
        case measure => simp [intOf] <;> omega

/-- Of of the reference, whatever comes. -/
theorem refOf_any (s : ByteArray) (w : World) (hs : s.size ≤ 100000) :
    Calls Tryz.prog 40 #[.string s] w (ROfPost s.data.toList w) := by
  rcases Nat.lt_or_ge s.size 8 with h | h
  · exact refOf_bad s w (.inl h)
  · rcases Nat.eq_zero_or_pos (s.size % 8) with h8 | h8
    · exact refOf_main s w h h8 hs
    · exact refOf_bad s w (.inr (by omega))

/-- Of, whatever comes. -/
theorem of_any (s : ByteArray) (w : World) (hs : s.size ≤ 1000000) :
    Calls Tryz.prog 92 #[.string s] w (OfPost s.data.toList w) := by
  have hsz : s.size = s.data.toList.length := by rw [Array.length_toList]; rfl
  rcases Nat.lt_or_ge s.size 8 with h | h
  · refine (of_small s w h).mono ?_
    rintro e w' ⟨rfl, hB⟩
    exact ⟨hB, .inr ⟨fun hg => by have := hg.1; omega, rfl⟩⟩
  · rcases Nat.lt_or_ge 4294967296 (valL s.data.toList) with hv | hv
    · refine (of_large s w h hv).mono ?_
      rintro e w' ⟨rfl, hB⟩
      exact ⟨hB, .inr ⟨fun hg => by have := hg.2.1; omega, rfl⟩⟩
    · by_cases hl : s.size = 8 + 8 * nwords (valL s.data.toList)
      · exact of_main s w h hv hl hs
      · refine (of_length s w h hv hl hs).mono ?_
        rintro e w' ⟨rfl, hB⟩
        exact ⟨hB, .inr ⟨fun hg => by have := hg.2.2.1; omega, rfl⟩⟩

end Go.Proofs.YtgpbpgpolpakjaaGreatDoor
