/- Walks: a row's fields, words, parts and bytes. -/
import Derived.Test.YtlpnbkfcbamnbaaDoorBitsG
import Derived.Test.YtlpnbkfcbamnbaaDoorMath4
set_option linter.unusedVariables false
set_option linter.unusedSimpArgs false
set_option maxRecDepth 100000
namespace Go.Proofs.YtlpnbkfcbamnbaaDoor
open Go.RowKit L

set_option maxHeartbeats 1000000 in
theorem bput_any (B b : Nat) (l : List UInt8) (v : Nat) (w : World) (h : Lib.IsBuilder 135 5 B b (Lib.byteCells l) w) (hlen : l.length ≤ 140737488300000) (hBw : B ≤ w.heap.size) (hv : v < 18446744073709551616) :
    Calls Tryd.prog 118 #[.pointer (some ⟨b, 0, none⟩), .int .u64 (v : Nat)] w fun e w' => e = .returned (.tuple #[]) ∧ Lib.IsBuilder 135 5 B b (Lib.byteCells (l ++ leB v 8)) w' ∧ Below B w w' := by
  go_enter Tryd.func118, Tryd.ntmps118
  go_wp2_with fail
  go_loopw [1, 4] (fun x i wr => ∃ k : Nat, k ≤ 8 ∧ i = .int .i64 k ∧ x = .int .u64 (v / 256 ^ k : Nat) ∧ Lib.IsBuilder 135 5 B b (Lib.byteCells (l ++ leB v k)) wr ∧ Below B w wr) (fun _ i _ => 8 - (intOf i).toNat)
  case atStart => exact ⟨0, by omega, rfl, by simp, by simpa [leB] using h, Below.refl _ _⟩
  case round =>
    obtain ⟨k, hk, rfl, rfl, hb, hB⟩ := hrel
    have hsz := hB.size
    rcases Nat.lt_or_ge k 8 with hlt | hge
    · have hlen2 : (Lib.byteCells (l ++ leB v k)).length + 1 ≤ 140737488355328 := by rw [Lib.byteCells_length, List.length_append, leB_length]; omega
      have H := hid (show Lib.byteCells (l ++ leB v k) ++ [.int .u8 ((v / 256 ^ k : Nat) % 256 : Int)] = Lib.byteCells (l ++ leB v (k + 1)) by
        rw [leB_succ, ← List.append_assoc, byteCells_append _ [UInt8.ofNat _], byteCells_one]; simp)
      have hx : v / 256 ^ k < 18446744073709551616 := Nat.lt_of_le_of_lt (Nat.div_le_self _ _) hv
      have H2 := hid (show ((v / 256 ^ k : Nat) : Int) / 256 = ((v / 256 ^ (k + 1) : Nat) : Int) by rw [Nat.pow_succ, ← Nat.div_div_eq_div_mul]; rfl)
      generalize hy : v / 256 ^ k = y at *
      go_wp2_with fail
      refine (sb_byte B b _ ((y : Int) % 256) _ hb hlen2 (by omega)).mono ?_
      rintro e w1 ⟨rfl, hb1, hB1⟩
      rw [H.out] at hb1
      go_wp2
      go_roundw
      case rel => exact ⟨k + 1, by omega, by go_num, by rw [H2.out], hb1, hB.trans hB1⟩
      case measure => simp [intOf]; omega
    · obtain rfl : k = 8 := by omega
      go_wp2
      go_end0
      exact ⟨rfl, hb, hB⟩

set_option maxHeartbeats 400000 in
theorem words_any (n : Nat) (w : World) (hn : n ≤ 4294967296) :
    Calls Tryd.prog 121 #[.int .i64 (n : Nat)] w fun e w' => e = .returned (.int .i64 (nwords n : Nat)) ∧ w = w' := by
  go_enter Tryd.func121, Tryd.ntmps121
  go_wp2
  go_ret
  exact ⟨ret_int' (by unfold nwords; omega), rfl⟩

theorem shut_bytes (l : List UInt8) : Ending.returned (.string ⟨l.toArray⟩) = .returned (.string ⟨l.toArray⟩) := rfl

set_option maxHeartbeats 1000000 in
theorem rbytes_any (g : Nat) (A : Option Addr) (c : Nat) (bs : List Bool) (w : World) (hr : RowAt w g A c bs) :
    Calls Tryd.prog 80 #[.pointer (some ⟨g, 0, none⟩)] w fun e w' => e = .returned (.string ⟨(rowBytes bs).toArray⟩) ∧ Below w.heap.size w w' := by
  obtain ⟨c0, c1⟩ := hr.cells
  have hg := hr.blk.lt
  have hsm := hr.small
  have hnw : nwords bs.length ≤ 67108864 := by unfold nwords; omega
  have hlst := hr.lst
  have hsb : Lib.IsBuilder 135 5 w.heap.size w.heap.size (Lib.byteCells []) (w.alloc (.cells #[.pointer none, .slice none 0 0] 135)) :=
    .inl ⟨Nat.le_refl _, _, BlkIs.new _ _ _, World.ownsRow_nil _ _ _ _, by simp [Value.ownBlock]⟩
  go_enter Tryd.func80, Tryd.ntmps80
  go_wp2_with fail
  refine (bput_any w.heap.size w.heap.size [] bs.length _ (by exact hsb) (by simp) (by simp) (by omega)).mono ?_
  rintro e w1 ⟨rfl, hb1, hB1⟩
  have hB1' : Below w.heap.size w w1 := ((Below.refl _ _).alloc (Nat.le_refl _) _).trans hB1
  have d0 := (hB1'.cell (p := ⟨g, 0, none⟩) hg).trans c0
  have d1 := (hB1'.cell (p := ⟨g, 1, none⟩) hg).trans c1
  go_wp2_with fail
  go_loopw [17] (fun i wr => ∃ k : Nat, k ≤ nwords bs.length ∧ i = .int .i64 k ∧ Lib.IsBuilder 135 5 w.heap.size w.heap.size (Lib.byteCells (rowBytesTo bs k)) wr ∧ Below w.heap.size w wr) (fun i _ => nwords bs.length - (intOf i).toNat)
  case atStart => exact ⟨0, by omega, rfl, by simpa [rowBytesTo] using hb1, hB1'⟩
  case round =>
    obtain ⟨k, hk, rfl, hb, hB⟩ := hrel
    have hsz := hB.size
    rcases Nat.lt_or_ge k (nwords bs.length) with hlt | hge
    · have q0 : (u64s (words bs))[k]? = some (.int .u64 (wordAt bs k : Nat)) := by rw [u64s, List.getElem?_map, words_get _ hlt]; rfl
      obtain ⟨ab, ao, rfl, had, hcl⟩ := hlst.lit (by have := (List.getElem?_eq_some_iff.1 q0).1; omega)
      have wc := (hB.cell (p := ⟨ab, ao + k, none⟩) had).trans (hcl _ _ q0)
      have hki : (k : Int) < (nwords bs.length : Int) := by omega
      have hk0 : (0 : Int) ≤ (k : Int) := by omega
      have H := hid (rowBytesTo_succ bs k hlt)
      have hlen := rowBytesTo_length bs k
      clear q0 hcl hsb
      go_wp2_with fail
      refine (bput_any w.heap.size w.heap.size (rowBytesTo bs k) (wordAt bs k) _ (by exact hb) (by omega) (by exact hsz) (wordAt_lt _ _)).mono ?_
      rintro e w2 ⟨rfl, hb2, hB2⟩
      rw [← H.out] at hb2
      go_wp2
      go_roundw
      case rel => exact ⟨k + 1, by omega, by go_num, hb2, hB.trans hB2⟩
      case measure => simp [intOf]; omega
    · obtain rfl : k = nwords bs.length := by omega
      go_wp2_with fail
      refine (Tryd.Builder_String_any w.heap.size w.heap.size (rowBytesTo bs (nwords bs.length)) _ (by exact hb) hsz).mono ?_
      rintro e w2 ⟨rfl, hB2⟩
      go_wp2
      go_ret
      exact ⟨by rw [rowBytesTo_all]; rfl, hB.trans hB2⟩

set_option maxHeartbeats 1000000 in
/-- Some bits that there are. -/
theorem rfield_any (g : Nat) (A : Option Addr) (c : Nat) (bs : List Bool) (p n : Nat) (w : World) (hr : RowAt w g A c bs) (hn : n ≤ 64) (h : p + n ≤ bs.length) :
    Calls Tryd.prog 122 #[.pointer (some ⟨g, 0, none⟩), .int .i64 (p : Nat), .int .i64 (n : Nat)] w fun e w' => e = .returned (.int .u64 (fld bs p n : Nat)) ∧ ∃ m, w' = w.drewN m := by
  obtain ⟨c0, c1⟩ := hr.cells
  have hsm := hr.small
  rcases Nat.eq_zero_or_pos n with h0 | h0
  · subst h0
    go_enter Tryd.func122, Tryd.ntmps122
    go_wp2
    go_ret
    exact ⟨by rw [fld_zero]; rfl, drew_some _⟩
  · have hi : p / 64 < nwords bs.length := by unfold nwords; omega
    have q0 : (u64s (words bs))[p / 64]? = some (.int .u64 (wordAt bs (p / 64) : Nat)) := by rw [u64s, List.getElem?_map, words_get _ hi]; rfl
    have hlst := hr.lst
    obtain ⟨ab, ao, rfl, had, hcl⟩ := hlst.lit (by have := (List.getElem?_eq_some_iff.1 q0).1; omega)
    have wc := hcl _ _ q0
    have hn0 : ((n : Int) == 0) = false := by rw [beq_eq_false_iff_ne]; omega
    have hi2 : (p : Int) / 64 < (nwords bs.length : Int) := by omega
    rcases Nat.lt_or_ge 64 (p % 64 + n) with h1 | h1
    · have hi3 : p / 64 + 1 < nwords bs.length := by unfold nwords; omega
      have q1 : (u64s (words bs))[p / 64 + 1]? = some (.int .u64 (wordAt bs (p / 64 + 1) : Nat)) := by rw [u64s, List.getElem?_map, words_get _ hi3]; rfl
      have wc1 := hcl _ _ q1
      have hi4 : (p : Int) / 64 + 1 < (nwords bs.length : Int) := by omega
      have H := hid (field_over bs p n hn h1)
      have ht : 64 < (p : Int) % 64 + (n : Int) := by omega
      clear hr hlst hcl q0 q1 hi hi3 h1
      go_enter Tryd.func122, Tryd.ntmps122
      go_wp2_with fail
      refine (field_any (wordAt bs (p / 64)) _ _ _ (wordAt_lt _ _)).mono ?_
      rintro e w' ⟨rfl, m, rfl⟩
      go_wp2_with fail
      refine (field_any (wordAt bs (p / 64 + 1)) _ _ _ (wordAt_lt _ _)).mono ?_
      rintro e w' ⟨rfl, m2, rfl⟩
      go_wp2
      go_ret
      refine ⟨ret_int' ?_, _, rfl⟩
      rw [or_shl _ _ _ (fieldN_lt _ _ _ (wordAt_lt _ _)), ← H.out, show (p : Int) % 64 + (n : Int) - 64 = ((p % 64 + n - 64 : Nat) : Int) from by omega]
      rfl
    · have H := hid (field_in bs p n h0 h1)
      have ht : (p : Int) % 64 + (n : Int) ≤ 64 := by omega
      clear hr hlst hcl q0 hi h1
      go_enter Tryd.func122, Tryd.ntmps122
      go_wp2_with fail
      refine (field_any (wordAt bs (p / 64)) _ _ _ (wordAt_lt _ _)).mono ?_
      rintro e w' ⟨rfl, m, rfl⟩
      go_wp2
      go_ret
      refine ⟨ret_int' ?_, _, rfl⟩
      rw [← H.out]; rfl

set_option maxHeartbeats 400000 in
theorem rField_arg (g : Nat) (p n : Int) (w : World) (h : n < 0 ∨ 64 < n) :
    Calls Tryd.prog 82 #[.pointer (some ⟨g, 0, none⟩), .int .i64 p, .int .i64 n] w fun e w' => e = .returned (.tuple #[.int .u64 0, .int .i64 1]) ∧ w = w' := by
  rcases h with h | h
  · go_enter Tryd.func82, Tryd.ntmps82
    go_wp2
    go_ret2
    exact ⟨rfl, rfl⟩
  · have h0 : 0 ≤ n := by omega
    go_enter Tryd.func82, Tryd.ntmps82
    go_wp2
    go_ret2
    exact ⟨rfl, rfl⟩

set_option maxHeartbeats 400000 in
theorem rField_range (g : Nat) (A : Option Addr) (c : Nat) (bs : List Bool) (p n : Int) (w : World) (hr : RowAt w g A c bs) (hn : 0 ≤ n) (hn' : n ≤ 64) (h : p < 0 ∨ bs.length - n < p) :
    Calls Tryd.prog 82 #[.pointer (some ⟨g, 0, none⟩), .int .i64 p, .int .i64 n] w fun e w' => e = .returned (.tuple #[.int .u64 0, .int .i64 2]) ∧ w = w' := by
  obtain ⟨c0, c1⟩ := hr.cells
  have hsm := hr.small
  rcases Int.lt_or_le p 0 with h1 | h1
  · go_enter Tryd.func82, Tryd.ntmps82
    go_wp2
    go_ret2
    exact ⟨rfl, rfl⟩
  · have h2 : (bs.length : Int) - n < p := by omega
    clear h
    go_enter Tryd.func82, Tryd.ntmps82
    go_wp2
    go_ret2
    exact ⟨rfl, rfl⟩

set_option maxHeartbeats 400000 in
theorem rField_ok (g : Nat) (A : Option Addr) (c : Nat) (bs : List Bool) (p n : Nat) (w : World) (hr : RowAt w g A c bs) (hn : n ≤ 64) (h : p + n ≤ bs.length) :
    Calls Tryd.prog 82 #[.pointer (some ⟨g, 0, none⟩), .int .i64 (p : Nat), .int .i64 (n : Nat)] w fun e w' => e = .returned (.tuple #[.int .u64 (fld bs p n : Nat), .int .i64 0]) ∧ ∃ m, w' = w.drewN m := by
  obtain ⟨c0, c1⟩ := hr.cells
  have hsm := hr.small
  have h2 : (p : Int) ≤ (bs.length : Int) - (n : Int) := by omega
  have h3 : (n : Int) ≤ 64 := by omega
  go_enter Tryd.func82, Tryd.ntmps82
  go_wp2_with (go_at_call 122; refine (rfield_any g A c bs p n _ hr hn h).mono ?_; rintro e w' ⟨rfl, m, rfl⟩)
  go_ret2
  exact ⟨rfl, _, rfl⟩

set_option maxHeartbeats 400000 in
theorem rword_any (g : Nat) (A : Option Addr) (c : Nat) (bs : List Bool) (i : Int) (w : World) (hr : RowAt w g A c bs) :
    Calls Tryd.prog 109 #[.pointer (some ⟨g, 0, none⟩), .int .i64 i] w fun e w' => e = .returned (.int .u64 (wordI bs i : Nat)) ∧ w = w' := by
  obtain ⟨c0, c1⟩ := hr.cells
  have hsm := hr.small
  rcases Int.lt_or_le i 0 with h1 | h1
  · rw [show wordI bs i = 0 from by unfold wordI; rw [if_pos h1]]
    go_enter Tryd.func109, Tryd.ntmps109
    go_wp2
    go_ret
    exact ⟨rfl, rfl⟩
  · obtain ⟨k, rfl⟩ := Int.eq_ofNat_of_zero_le h1
    rw [wordI_nat]
    rcases Nat.lt_or_ge k (nwords bs.length) with h2 | h2
    · have q0 : (u64s (words bs))[k]? = some (.int .u64 (wordAt bs k : Nat)) := by rw [u64s, List.getElem?_map, words_get _ h2]; rfl
      have hlst := hr.lst
      obtain ⟨ab, ao, rfl, had, hcl⟩ := hlst.lit (by have := (List.getElem?_eq_some_iff.1 q0).1; omega)
      have wc := hcl _ _ q0
      have h3 : (k : Int) < (nwords bs.length : Int) := by omega
      clear hcl q0 hlst hr
      go_enter Tryd.func109, Tryd.ntmps109
      go_wp2
      go_ret
      exact ⟨rfl, rfl⟩
    · have e : wordAt bs k = 0 := by
        unfold wordAt
        rw [List.drop_eq_nil_of_le (by unfold nwords at h2; omega)]; rfl
      rw [e]
      have h3 : (nwords bs.length : Int) ≤ (k : Int) := by omega
      go_enter Tryd.func109, Tryd.ntmps109
      go_wp2
      go_ret
      exact ⟨rfl, rfl⟩

/-- A part's ends. -/
def cutLo (n : Nat) (a : Int) : Nat := (min (max a 0) n).toNat
def cutHi (n : Nat) (a b : Int) : Nat := (min (max b (cutLo n a : Nat)) n).toNat
theorem cut_bd (n : Nat) (a b : Int) : cutLo n a ≤ cutHi n a b ∧ cutHi n a b ≤ n := by unfold cutHi cutLo; omega

set_option maxHeartbeats 1000000 in
theorem clip_any (g : Nat) (A : Option Addr) (c : Nat) (bs : List Bool) (a b : Int) (w : World) (hr : RowAt w g A c bs) :
    Calls Tryd.prog 84 #[.pointer (some ⟨g, 0, none⟩), .int .i64 a, .int .i64 b] w (NewRow w ((bs.drop (cutLo bs.length a)).take (cutHi bs.length a b - cutLo bs.length a))) := by
  obtain ⟨c0, c1⟩ := hr.cells
  have hsm := hr.small
  have hcb := cut_bd bs.length a b
  have H1 : min (max a 0) (bs.length : Int) = (cutLo bs.length a : Nat) := by unfold cutLo; omega
  have H2 : min (max b (cutLo bs.length a : Nat)) (bs.length : Int) = (cutHi bs.length a b : Nat) := by unfold cutHi; omega
  have hb0 := BuilderAt.new_at w w.heap.size w.heap.size rfl
  generalize cutHi bs.length a b = hi at *
  generalize cutLo bs.length a = lo at *
  go_enter Tryd.func84, Tryd.ntmps84
  go_wp2_with fail
  have HH1 := hid H1
  have HH2 := hid H2
  clear H1 H2
  go_loopw [1, 8] (fun fr t8 wr => ∃ (f : Nat) (v : Value), lo ≤ f ∧ f ≤ hi ∧ fr = .int .i64 f ∧ BuilderAt wr w.heap.size w.heap.size v ((bs.drop lo).take (f - lo)) ∧ Below w.heap.size w wr) (fun fr _ _ => hi - (intOf fr).toNat)
  case atStart => exact ⟨lo, _, Nat.le_refl _, hcb.1, rfl, by simpa using hb0, (Below.refl _ _).alloc (Nat.le_refl _) _⟩
  case round =>
    obtain ⟨f, v, hf1, hf2, rfl, hb, hB⟩ := hrel
    have hsz := hB.size
    clear hb0
    rcases Nat.lt_or_ge f hi with hlt | hge
    · obtain ⟨k, hk⟩ : ∃ k, k = min 64 (hi - f) := ⟨_, rfl⟩
      have H3 : min 64 ((hi : Int) - (f : Int)) = (k : Nat) := by omega
      have hlti : (f : Int) < (hi : Int) := by omega
      have hk1 : k ≤ 64 := by omega
      have hk2 : 0 < k := by omega
      have hk3 : f + k ≤ hi := by omega
      have hr2 : RowAt wr g A c bs := hr.below hB
      have hlen : ((bs.drop lo).take (f - lo)).length ≤ 4294967200 ∨ True := .inr trivial
      have H := hid (show (bs.drop lo).take (f - lo) ++ bitsOf (fld bs f k) k = (bs.drop lo).take (f + k - lo) by
        rw [bitsOf_fld bs f k (by omega), show f + k - lo = (f - lo) + k from by omega, List.take_add, List.drop_drop, show lo + (f - lo) = f from by omega])
      have hl2 : ((bs.drop lo).take (f - lo)).length + k ≤ 4294967296 := by rw [List.length_take, List.length_drop]; omega
      clear hk hlen
      go_wp2_with fail
      refine (rfield_any g A c bs f k _ hr2 hk1 (by omega)).mono ?_
      rintro e w' ⟨rfl, m, rfl⟩
      go_wp2_with fail
      refine (put_ok (fld bs f k) k w.heap.size w.heap.size v ((bs.drop lo).take (f - lo)) _ (fld_lt _ _ _) hk1 hl2 (by exact hb) (by exact hsz)).mono ?_
      rintro e w2 ⟨rfl, v2, hb2, hat2, ho2⟩
      rw [H.out] at hb2
      have hB2 := hB.trans (putDone_below hb (Nat.le_refl _) (Nat.le_refl _) hsz ho2.of_drewN)
      go_wp2
      go_roundw
      case rel => exact ⟨f + k, v2, by omega, hk3, by go_num, hb2, hB2⟩
      case measure => simp [intOf]; omega
    · obtain rfl : f = hi := by omega
      go_wp2_with fail
      refine (row_any _ _ _ _ _ hb (by rw [List.length_take, List.length_drop]; omega)).mono ?_
      rintro e w2 ⟨g2, A2, c2, rfl, hr2, h1, h2, hB2⟩
      go_wp2
      go_ret
      exact ⟨g2, A2, c2, rfl, hr2, by omega, fun ad h => by have := h2 ad h; omega, hB.trans (hB2.mono hsz)⟩

end Go.Proofs.YtlpnbkfcbamnbaaDoor
