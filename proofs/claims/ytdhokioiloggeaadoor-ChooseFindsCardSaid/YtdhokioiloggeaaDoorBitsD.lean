/- Walks: the reference's Put and All; a row made of bits. -/
import Derived.Test.YtdhokioiloggeaaDoorBitsC
set_option linter.unusedVariables false
set_option linter.unusedSimpArgs false
set_option maxRecDepth 100000
namespace Go.Proofs.YtdhokioiloggeaaDoor
open Go.RowKit L

theorem Tryd.infoBool : (Tryd.prog.info? 4).map (fun i => (i.zero, i.size, i.bytes)) = some (some (.bool false), 1, 1) := by kernel_rfl

theorem L.bitsOf_succ (x k : Nat) : bitsOf x (k + 1) = bitsOf x k ++ [x.testBit k] := by simp [bitsOf, List.range_succ]
theorem bools_append (a b : List Bool) : bools (a ++ b) = bools a ++ bools b := by simp [bools]

set_option maxHeartbeats 1000000 in
theorem rput_arg (A : Option Addr) (n c x : Nat) (m : Int) (w : World) (hx : x < 18446744073709551616) (h : m < 0 ∨ 64 < m ∨ m < need x) :
    Calls Tryd.prog 56 #[.slice A n c, .agg #[.int .u64 (x : Nat), .int .i64 m]] w fun e w' => e = .returned (.tuple #[.slice A n c, .int .i64 1]) ∧ Below w.heap.size w w' := by
  rcases Int.lt_or_le m 0 with h1 | h1
  · go_enter Tryd.func56, Tryd.ntmps56
    go_wp2
    go_quiet (fail)
    go_wp2
    go_ret2
    exact ⟨rfl, below_drewN ((Below.refl _ _).alloc (Nat.le_refl _) _) _⟩
  · rcases Int.lt_or_le 64 m with h2 | h2
    · go_enter Tryd.func56, Tryd.ntmps56
      go_wp2
      go_quiet (fail)
      go_wp2
      go_ret2
      exact ⟨rfl, below_drewN ((Below.refl _ _).alloc (Nat.le_refl _) _) _⟩
    · have h3 : m < (need x : Int) := by omega
      clear h
      go_enter Tryd.func56, Tryd.ntmps56
      go_wp2
      go_quiet ((go_at_call 27; exact quiet_left (rneed_any _ _ hx)))
      go_wp2
      go_ret2
      exact ⟨rfl, below_drewN ((Below.refl _ _).alloc (Nat.le_refl _) _) _⟩

set_option maxHeartbeats 1000000 in
theorem rput_ok (A : Option Addr) (c x m : Nat) (bs : List Bool) (w : World) (hl : Lst w A (bools bs)) (hm : m ≤ 64) (hx : x < 2 ^ m) (hn : bs.length ≤ 4294967296) :
    Calls Tryd.prog 56 #[.slice A bs.length c, .agg #[.int .u64 (x : Nat), .int .i64 (m : Nat)]] w fun e w' => ∃ A' c', e = .returned (.tuple #[.slice A' (bs ++ bitsOf x m).length c', .int .i64 0]) ∧
      Lst w' A' (bools (bs ++ bitsOf x m)) ∧ (∀ ad, A' = some ad → w.heap.size ≤ ad.block) ∧ Below w.heap.size w w' ∧ (bs ++ bitsOf x m).length ≤ c' := by
  have hx64 : x < 18446744073709551616 := Nat.lt_of_lt_of_le hx (pow_le64 hm)
  have hnd : (need x : Int) ≤ (m : Int) := by have := (need_le_iff x m hx64).2 hx; omega
  have h0 : (0 : Int) ≤ (m : Int) := by omega
  have h64 : (m : Int) ≤ 64 := by omega
  obtain ⟨i0, hi0, hz0, hz1, hz2⟩ := info_parts Tryd.infoBool
  have hB0 : Below w.heap.size w (w.alloc (.cells #[.int .u64 (x : Nat), .int .i64 (m : Nat)] 77)) := (Below.refl _ _).alloc (Nat.le_refl _) _
  go_enter Tryd.func56, Tryd.ntmps56
  go_wp2
  go_quiet ((go_at_call 27; exact quiet_left (rneed_any _ _ hx64)))
  go_wp2_with (at_builtin
               go_must (refine wpList_append_more _ rfl (.tmp 25) (.tmp 26) _ rfl (w.heap.size + 1) 4 i0 _ 1 Tryd.underlying39 hi0 hz0 hz1 hz2 rfl (.slice (some ⟨w.heap.size + 1, 0, none⟩) 0 0) 0 [] rfl ?hown A bs.length c (bools bs) rfl ?hls (bools_length _) (bools_one _) ?h63 ?hby ?hbs _ rfl ?_)
               go_must (case hown => exact own_empty_at _ _ _ _ (by simp) (by simp))
               go_must (case hls => exact (hl.alloc _).alloc _)
               go_must (case h63 => simp only [maxLen]; omega)
               go_must (case hby => omega)
               go_must (case hbs => simp)
               intro A1 c1 w1 hown1 hgr1 hat1)
  have hB1 : Below (w.heap.size + 1) (w.alloc (.cells #[.int .u64 (x : Nat), .int .i64 (m : Nat)] 77)) w1 :=
    ((below_drewN (Below.refl _ _) nq).alloc (by simp) (.cells #[] 4)).grown hgr1 (by simp) (fun k hk => Nat.le_of_eq (by simpa [Value.ownBlock] using hk))
  have hown1' : w1.ownsRow (w.heap.size + 1) 4 1 (.slice A1 bs.length c1) bs.length (bools bs) := by simpa using hown1
  clear hown1 hgr1 hat1
  have hz1' : w.heap.size + 1 ≤ w1.heap.size := by have := hB1.size; simpa using this
  go_loopw [6, 7] (fun out i wr => ∃ (k : Nat) (A' : Option Addr) (c' : Nat), k ≤ m ∧ i = .int .i64 k ∧ out = .slice A' (bs.length + k) c' ∧ wr.ownsRow (w.heap.size + 1) 4 1 (.slice A' (bs.length + k) c') (bs.length + k) (bools (bs ++ bitsOf x k)) ∧
      Below (w.heap.size + 1) (w.alloc (.cells #[.int .u64 (x : Nat), .int .i64 (m : Nat)] 77)) wr) (fun _ i _ => m - (intOf i).toNat)
  case atStart => exact ⟨0, A1, c1, by omega, rfl, by simp, by simpa [bitsOf] using hown1', hB1⟩
  case round =>
    obtain ⟨k, A', c', hk, rfl, rfl, hown, hB⟩ := hrel
    have b0 : wr.cell? ⟨w.heap.size, 0, none⟩ = some (.int .u64 (x : Nat)) := (hB.cell (p := ⟨w.heap.size, 0, none⟩) (by simp)).trans ((BlkIs.new w _ _).cell 0)
    have b1 : wr.cell? ⟨w.heap.size, 1, none⟩ = some (.int .i64 (m : Nat)) := (hB.cell (p := ⟨w.heap.size, 1, none⟩) (by simp)).trans ((BlkIs.new w _ _).cell 1)
    have hzr : w.heap.size + 1 ≤ wr.heap.size := by have := hB.size; simpa using this
    rcases Nat.lt_or_ge k m with hlt | hge
    · have hbit : ibit x (k : Nat) = x.testBit k := ibit_nat x k (by omega)
      have HB := hid hbit
      have hlti : (k : Int) < (m : Int) := by omega
      clear hbit hown1' hB1
      go_wp2_with (first
        | (go_at_call 41; refine (rbit_any _ _ _ hx64).mono ?_; rw [HB.out]; rintro e w' ⟨rfl, rfl⟩)
        | (at_builtin
           go_must (refine wpList_append_more _ rfl (.tmp 34) (.tmp 39) _ rfl (w.heap.size + 1) 4 i0 _ 1 Tryd.underlying39 hi0 hz0 hz1 hz2 rfl (.slice A' (bs.length + k) c') (bs.length + k) (bools (bs ++ bitsOf x k)) rfl ?hown (some ⟨wr.heap.size, 0, none⟩) 1 1 [.bool (x.testBit k)] rfl ?hls rfl ?h1 ?h63 ?hby ?hbs _ rfl ?_)
           go_must (case hown => exact hown.alloc _)
           go_must (case hls => exact lst_one _ _ _ _ rfl)
           go_must (case h1 => simp [Value.oneCell'])
           go_must (case h63 => simp only [maxLen]; omega)
           go_must (case hby => omega)
           go_must (case hbs => simp; omega)
           intro A2 c2 w2 hown2 hgr2 hat2))
      have hB2 : Below (w.heap.size + 1) (w.alloc (.cells #[.int .u64 (x : Nat), .int .i64 (m : Nat)] 77)) w2 :=
        (hB.alloc hzr _).grown hgr2 (by simp; omega) (fun j hj => (hown.lt j hj).1)
      have hown3 : w2.ownsRow (w.heap.size + 1) 4 1 (.slice A2 (bs.length + (k + 1)) c2) (bs.length + (k + 1)) (bools (bs ++ bitsOf x (k + 1))) := by
        have e : bools (bs ++ bitsOf x (k + 1)) = bools (bs ++ bitsOf x k) ++ [.bool (x.testBit k)] := by rw [bitsOf_succ, ← List.append_assoc, bools_append]; rfl
        rw [e, ← Nat.add_assoc]; exact hown2
      clear hown2 hgr2 hat2
      go_roundw
      case rel => exact ⟨k + 1, A2, c2, by omega, by go_num, rfl, hown3, hB2⟩
      case measure => simp [intOf]; omega
    · obtain rfl : k = m := by omega
      go_wp2
      go_ret2
      have hlen : (bs ++ bitsOf x k).length = bs.length + k := by rw [List.length_append, bitsOf_length]
      rw [hlen]
      exact ⟨A', c', rfl, own_lst hown, fun ad h => by have := own_base hown ad h; omega, hB0.trans (hB.mono (by omega)), own_cap hown⟩

end Go.Proofs.YtdhokioiloggeaaDoor
