/- Walks: the reference's fields, words and bytes of a row. -/
import Derived.Test.YtlpnbkfcbamnbaaDoorBitsH
import Derived.Laws.BytesArg
set_option linter.unusedVariables false
set_option linter.unusedSimpArgs false
set_option maxRecDepth 100000
namespace Go.Proofs.YtlpnbkfcbamnbaaDoor
open Go.RowKit L

theorem or_pow (a i : Nat) (ha : a < 18446744073709551616) (hi : i < 64) : bits BinOp.or IntKind.u64 (a : Int) (IntKind.u64.wrap (2 ^ i)) = ((a ||| 2 ^ i : Nat) : Int) := by
  have h := pow_lt64 hi
  have e : IntKind.u64.wrap (2 ^ i) = ((2 ^ i : Nat) : Int) := by
    rw [IntKind.wrap_u64, show ((2 : Int) ^ i) = ((2 ^ i : Nat) : Int) from by simp]
    generalize (2 : Nat) ^ i = q at h ⊢
    omega
  rw [e]; exact u64_or_nat _ _ ha h

set_option maxHeartbeats 1000000 in
theorem refField_any (A : Option Addr) (c : Nat) (bs : List Bool) (p n : Nat) (w : World) (hl : Lst w A (bools bs)) (hn : n ≤ 64) (h : p + n ≤ bs.length) (hs : bs.length ≤ 4294967296) :
    Calls Tryd.prog 89 #[.slice A bs.length c, .int .i64 (p : Nat), .int .i64 (n : Nat)] w fun e w' => e = .returned (.int .u64 (fld bs p n : Nat)) ∧ w = w' := by
  go_enter Tryd.func89, Tryd.ntmps89
  go_wp2_with fail
  go_loop [7, 8] (fun v i => ∃ k : Nat, k ≤ n ∧ i = .int .i64 k ∧ v = .int .u64 (fld bs p k : Nat)) (fun _ i => n - (intOf i).toNat)
  case atStart => exact ⟨0, by omega, rfl, by rw [fld_zero]; rfl⟩
  case round =>
    obtain ⟨k, hk, rfl, rfl⟩ := hrel
    rcases Nat.lt_or_ge k n with hlt | hge
    · have q0 := bools_get bs (i := p + k) (by omega)
      obtain ⟨ab, ao, rfl, had, hcl⟩ := hl.lit (by rw [bools_length]; omega)
      have wc := hcl _ _ q0
      have hki : (p : Int) + (k : Int) < (bs.length : Int) := by omega
      have hlti : (k : Int) < (n : Int) := by omega
      have hs2 : (p : Int) + (k : Int) ≤ 4294967296 := by omega
      have H := hid (fld_succ bs p k)
      have hf := fld_lt64 bs p k (by omega)
      have hk64 : k < 64 := by omega
      clear hcl q0
      cases hb : bitAt bs (p + k)
      · rw [hb] at wc
        have H' := hid (show fld bs p (k + 1) = fld bs p k by rw [H.out, hb]; rfl)
        have Hb := hid hb
        clear hb
        go_wp2
        go_round
        case rel => exact ⟨k + 1, by omega, by go_num, by rw [H'.out]⟩
        case measure => simp [intOf]; omega
      · rw [hb] at wc
        have H' := hid (show fld bs p (k + 1) = fld bs p k ||| 2 ^ k by rw [H.out, hb]; rfl)
        have Hb := hid hb
        clear hb
        go_wp2
        go_round
        case rel => exact ⟨k + 1, by omega, by go_num, by rw [H'.out, ← or_pow _ _ hf hk64]⟩
        case measure => simp [intOf]; omega
    · obtain rfl : k = n := by omega
      go_wp2
      go_ret
      exact ⟨rfl, rfl⟩

set_option maxHeartbeats 1000000 in
theorem refWord_any (A : Option Addr) (c : Nat) (bs : List Bool) (i : Int) (w : World) (hl : Lst w A (bools bs)) (hs : bs.length ≤ 4294967296) :
    Calls Tryd.prog 124 #[.slice A bs.length c, .int .i64 i] w fun e w' => e = .returned (.int .u64 (wordI bs i : Nat)) ∧ w = w' := by
  rcases Int.lt_or_le i 0 with h1 | h1
  · rw [show wordI bs i = 0 from by unfold wordI; rw [if_pos h1]]
    go_enter Tryd.func124, Tryd.ntmps124
    go_wp2
    go_ret
    exact ⟨rfl, rfl⟩
  · obtain ⟨k, rfl⟩ := Int.eq_ofNat_of_zero_le h1
    rw [wordI_nat]
    rcases Nat.lt_or_ge (bs.length / 64) k with h2 | h2
    · have e : wordAt bs k = 0 := by
        unfold wordAt
        rw [List.drop_eq_nil_of_le (by omega)]; rfl
      rw [e]
      have h3 : (bs.length : Int) / 64 < (k : Int) := by omega
      go_enter Tryd.func124, Tryd.ntmps124
      go_wp2
      go_ret
      exact ⟨rfl, rfl⟩
    · have h3 : (k : Int) ≤ (bs.length : Int) / 64 := by omega
      obtain ⟨n, hn⟩ : ∃ n, n = min 64 (bs.length - 64 * k) := ⟨_, rfl⟩
      have H3 : min 64 ((bs.length : Int) - 64 * (k : Int)) = (n : Nat) := by omega
      have H4 := hid (show fld bs (64 * k) n = wordAt bs k by
        apply Nat.eq_of_testBit_eq; intro j
        rw [fld_testBit, wordAt_testBit]
        by_cases hj : j < n
        · have : j < 64 := by omega
          simp [hj, this]
        · by_cases h64 : j < 64
          · rw [bitAt_ge bs (64 * k + j) (by omega)]; simp
          · simp [hj, h64])
      have hn1 : n ≤ 64 := by omega
      have hn2 : 64 * k + n ≤ bs.length := by omega
      clear hn
      go_enter Tryd.func124, Tryd.ntmps124
      go_wp2_with fail
      refine (refField_any A c bs (64 * k) n _ hl hn1 hn2 hs).mono ?_
      rintro e w' ⟨rfl, rfl⟩
      go_wp2
      go_ret
      exact ⟨by rw [← H4.out]; rfl, rfl⟩

/-- string(b) of a row of one's own. -/
theorem run_string_own {w : World} {base : Nat} {A : Option Addr} {c : Nat} {l : List UInt8} (hown : w.ownsRow base 5 1 (.slice A l.length c) l.length (Lib.byteCells l)) :
    (convert 133 9 (.slice A l.length c)).run Tryd.prog w = .ok (.string ⟨l.toArray⟩) w := by
  rcases Nat.eq_zero_or_pos l.length with h0 | h0
  · have hl := List.eq_nil_of_length_eq_zero h0
    subst hl
    rcases A with _ | ad
    · exact run_convert_bytes_nil w 133 5 Tryd.underlying133 Tryd.underlying5 _ _ 9 Tryd.underlying9
    · rcases hown.2 with ⟨h, _⟩ | ⟨g, cap, cur, h, _⟩
      · simp at h
      · simp only [Value.slice.injEq, Option.some.injEq] at h
        rw [h.1]
        exact run_convert_bytes_arg w 133 5 Tryd.underlying133 Tryd.underlying5 g 0 0 c [] rfl (fun i hi => absurd hi (by omega)) 9 Tryd.underlying9
  · obtain ⟨ab, ao, rfl, _, hcl⟩ := (own_lst hown).lit (by rw [Lib.byteCells_length]; exact h0)
    have := run_convert_bytes_arg w 133 5 Tryd.underlying133 Tryd.underlying5 ab ao l.length c (l.map fun b => (b.toNat : Int)) (by simp) (fun i hi => by
      rw [hcl i (.int .u8 (l[i].toNat : Nat)) (by simp [Lib.byteCells, hi])]
      simp [hi]) 9 Tryd.underlying9
    rw [this]
    congr 2
    apply ByteArray.ext
    apply Array.toList_inj.1
    rw [strOfNums_data, List.map_map]
    have hid : ((fun n : Int => UInt8.ofNat n.toNat) ∘ fun b : UInt8 => (b.toNat : Int)) = id := by funext b; simp
    rw [hid, List.map_id]

set_option maxHeartbeats 1000000 in
theorem refEight_any (v : Nat) (w : World) (hv : v < 18446744073709551616) :
    Calls Tryd.prog 123 #[.int .u64 (v : Nat)] w fun e w' => e = .returned (.string ⟨(leB v 8).toArray⟩) ∧ Below w.heap.size w w' := by
  obtain ⟨i0, hi, hz0, hz1, hz2⟩ := info_parts Tryd.infoU8
  go_enter Tryd.func123, Tryd.ntmps123
  go_wp2_with fail
  go_loopw [3, 4] (fun out i wr => ∃ (k : Nat) (A : Option Addr) (c : Nat), k ≤ 8 ∧ i = .int .i64 k ∧ out = .slice A k c ∧ wr.ownsRow w.heap.size 5 1 (.slice A k c) k (Lib.byteCells (leB v k)) ∧ Below w.heap.size w wr) (fun _ i _ => 8 - (intOf i).toNat)
  case atStart => exact ⟨0, none, 0, by omega, rfl, rfl, World.ownsRow_nil _ _ _ _, Below.refl _ _⟩
  case round =>
    obtain ⟨k, A, c, hk, rfl, rfl, hown, hB⟩ := hrel
    have hsz := hB.size
    rcases Nat.lt_or_ge k 8 with hlt | hge
    · have hlti : (k : Int) < 8 := by omega
      have H1 := hid (show Lib.byteCells (leB v k) ++ [.int .u8 ((v : Int) / 2 ^ (8 * k) % 256)] = Lib.byteCells (leB v (k + 1)) by
        rw [leB_succ, byteCells_append, byteCells_one, show (256 : Nat) ^ k = 2 ^ (8 * k) from by rw [Nat.pow_mul]]; simp)
      go_wp2_with (at_builtin
                   go_must (refine wpList_append_more _ rfl (.tmp 9) (.tmp 15) _ rfl w.heap.size 5 i0 _ 1 Tryd.underlying133 hi hz0 hz1 hz2 rfl (.slice A k c) k (Lib.byteCells (leB v k)) rfl ?hown (some ⟨wr.heap.size, 0, none⟩) 1 1 [.int .u8 ((v : Int) / 2 ^ (8 * k) % 256)] rfl ?hls rfl ?h1 ?h63 ?hby ?hbs _ rfl ?_)
                   go_must (case hown => exact hown.alloc _)
                   go_must (case hls => exact lst_one _ _ _ _ rfl)
                   go_must (case h1 => simp [Value.oneCell'])
                   go_must (case h63 => simp only [maxLen]; omega)
                   go_must (case hby => omega)
                   go_must (case hbs => simp; omega)
                   intro A2 c2 w2 hown2 hgr2 hat2)
      have hB2 : Below w.heap.size w w2 := (hB.alloc hsz _).grown hgr2 (by simp; omega) (fun j hj => (hown.lt j hj).1)
      rw [H1.out] at hown2
      clear hgr2 hat2
      go_roundw
      case rel => exact ⟨k + 1, A2, c2, by omega, by go_num, rfl, hown2, hB2⟩
      case measure => simp [intOf]; omega
    · obtain rfl : k = 8 := by omega
      have hcv : (convert 133 9 (.slice A 8 c)).run Tryd.prog wr = .ok (.string ⟨(leB v 8).toArray⟩) wr := by
        have := run_string_own (l := leB v 8) (by rw [leB_length]; exact hown)
        rwa [leB_length] at this
      go_wp2
      go_ret
      exact ⟨rfl, hB⟩

set_option maxHeartbeats 1000000 in
theorem refBytes_any (A : Option Addr) (c : Nat) (bs : List Bool) (w : World) (hl : Lst w A (bools bs)) (hs : bs.length ≤ 1000000) :
    Calls Tryd.prog 86 #[.slice A bs.length c] w fun e w' => e = .returned (.string ⟨(rowBytes bs).toArray⟩) ∧ Below w.heap.size w w' := by
  have hnw : nwords bs.length ≤ 20000 := by unfold nwords; omega
  go_enter Tryd.func86, Tryd.ntmps86
  go_wp2_with fail
  refine (refEight_any bs.length _ (by omega)).mono ?_
  rintro e w1 ⟨rfl, hB1⟩
  go_wp2_with fail
  go_loopw [3, 4] (fun s i wr => ∃ k : Nat, k ≤ nwords bs.length ∧ i = .int .i64 k ∧ s = .string ⟨(rowBytesTo bs k).toArray⟩ ∧ Below w.heap.size w wr) (fun _ i _ => nwords bs.length - (intOf i).toNat)
  case atStart => exact ⟨0, by omega, rfl, by simp [rowBytesTo], hB1⟩
  case round =>
    obtain ⟨k, hk, rfl, rfl, hB⟩ := hrel
    have hsz := hB.size
    have hl2 : Lst wr A (bools bs) := hl.below hB
    rcases Nat.lt_or_ge k (nwords bs.length) with hlt | hge
    · have hki : 64 * (k : Int) < (bs.length : Int) := by unfold nwords at hlt; omega
      have H := hid (rowBytesTo_succ bs k hlt)
      have hlen := rowBytesTo_length bs k
      have hlen1 : ((rowBytesTo bs k).length : Int) ≤ 8388608 := by omega
      have hlen2 : ((leB (wordAt bs k) 8).length : Int) ≤ 8388608 := by rw [leB_length]; omega
      go_wp2_with fail
      refine (refWord_any A c bs (k : Nat) _ hl2 (by omega)).mono ?_
      rw [wordI_nat]
      rintro e w' ⟨rfl, rfl⟩
      go_wp2_with fail
      refine (refEight_any (wordAt bs k) _ (wordAt_lt _ _)).mono ?_
      rintro e w2 ⟨rfl, hB2⟩
      have hB3 := hB.trans (hB2.mono hsz)
      have hadd := run_string_add_lists (P := Tryd.prog) w2 (rowBytesTo bs k) (leB (wordAt bs k) 8) hlen1 hlen2
      go_wp2
      go_roundw
      case rel => exact ⟨k + 1, by omega, by go_num, by rw [H.out], hB3⟩
      case measure => simp [intOf]; omega
    · obtain rfl : k = nwords bs.length := by omega
      have hki : (bs.length : Int) ≤ 64 * (nwords bs.length : Int) := by unfold nwords; omega
      go_wp2
      go_ret
      exact ⟨by rw [rowBytesTo_all]; rfl, hB⟩

end Go.Proofs.YtlpnbkfcbamnbaaDoor
