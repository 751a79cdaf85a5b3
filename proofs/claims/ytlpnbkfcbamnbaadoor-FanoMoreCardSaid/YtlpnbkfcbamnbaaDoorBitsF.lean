/- Walks: a bit put; a row made of bits; all Puts of the reference; numbers of eight bytes. -/
import Derived.Test.YtlpnbkfcbamnbaaDoorBitsE
import Derived.Test.YtlpnbkfcbamnbaaDoorMath5
set_option linter.unusedVariables false
set_option linter.unusedSimpArgs false
set_option maxRecDepth 100000
namespace Go.Proofs.YtlpnbkfcbamnbaaDoor
open Go.RowKit L

def opCells (l : List (Nat × Int)) : List Value := l.flatMap fun o => [.int .u64 (o.1 : Nat), .int .i64 o.2]
theorem opCells_get : ∀ (l : List (Nat × Int)) (k : Nat) (h : k < l.length), (opCells l)[k * 2]? = some (.int .u64 (l[k].1 : Nat)) ∧ (opCells l)[k * 2 + 1]? = some (.int .i64 l[k].2)
  | o :: l, 0, _ => by simp [opCells]
  | o :: l, k + 1, h => by
    have ih := opCells_get l k (by simpa using h)
    rw [show (k + 1) * 2 = k * 2 + 2 from by omega]
    simpa [opCells] using ih
def allPuts (l : List (Nat × Int)) : List Bool := l.foldl stepPut []
theorem foldl_stepPut_length : ∀ (l : List (Nat × Int)) (bs : List Bool), (l.foldl stepPut bs).length ≤ bs.length + 64 * l.length
  | [], bs => by simp
  | o :: l, bs => by
    have h1 := foldl_stepPut_length l (stepPut bs o)
    have h2 := stepPut_length bs o
    simp only [List.foldl_cons, List.length_cons]; omega
theorem allPuts_length (l : List (Nat × Int)) : (allPuts l).length ≤ 64 * l.length := by have := foldl_stepPut_length l []; simpa [allPuts] using this
theorem allPuts_succ (l : List (Nat × Int)) (k : Nat) (h : k < l.length) : allPuts (l.take (k + 1)) = stepPut (allPuts (l.take k)) l[k] := by
  unfold allPuts
  rw [List.take_succ_eq_append_getElem h, List.foldl_append]; rfl

set_option maxHeartbeats 400000 in
theorem bit_any (one : Bool) (base g : Nat) (v : Value) (bs : List Bool) (w : World) (hl : bs.length + 1 ≤ 4294967296) (hb : BuilderAt w base g v bs) (hbase : base ≤ w.heap.size) :
    Calls Tryd.prog 58 #[.pointer (some ⟨g, 0, none⟩), .bool one] w fun e w' => e = .returned (.int .i64 0) ∧ PutDone w w' base g v (bs ++ [one]) := by
  cases one
  · go_enter Tryd.func58, Tryd.ntmps58
    go_wp2_with fail
    refine (put_ok 0 1 base g v bs _ (by decide) (by decide) hl hb hbase).mono ?_
    rintro e w1 ⟨rfl, h⟩
    go_wp2
    go_ret
    exact ⟨rfl, h⟩
  · go_enter Tryd.func58, Tryd.ntmps58
    go_wp2_with fail
    refine (put_ok 1 1 base g v bs _ (by decide) (by decide) hl hb hbase).mono ?_
    rintro e w1 ⟨rfl, h⟩
    go_wp2
    go_ret
    exact ⟨rfl, h⟩

theorem putDone_below {w w' : World} {base B g : Nat} {v : Value} {bs : List Bool} (hb : BuilderAt w base g v bs) (hg : B ≤ g) (hbase : B ≤ base) (hB : B ≤ w.heap.size) (ho : Only (fun i => i = g ∨ v.ownBlock = some i) w w') : Below B w w' :=
  ho.below (fun i hi => by
    rcases hi with hi | hi
    · omega
    · have := (hb.own.lt _ hi).1; omega) hB

set_option maxHeartbeats 400000 in
theorem made_any (A : Option Addr) (c : Nat) (l : List Bool) (w : World) (hl : Lst w A (bools l)) (hn : l.length ≤ 4294967296) :
    Calls Tryd.prog 31 #[.slice A l.length c] w (NewRow w l) := by
  have hb0 := BuilderAt.new_at w w.heap.size w.heap.size rfl
  go_enter Tryd.func31, Tryd.ntmps31
  go_wp2_with fail
  go_loopw [4] (fun i wr => ∃ (k : Nat) (v : Value), k ≤ l.length ∧ i = .int .i64 k ∧ BuilderAt wr w.heap.size w.heap.size v (l.take k) ∧ Below w.heap.size w wr) (fun i _ => l.length - (intOf i).toNat)
  case atStart => exact ⟨0, _, by omega, rfl, hb0, (Below.refl _ _).alloc (Nat.le_refl _) _⟩
  case round =>
    obtain ⟨k, v, hk, rfl, hb, hB⟩ := hrel
    have hsz := hB.size
    clear hb0
    rcases Nat.lt_or_ge k l.length with hlt | hge
    · have q0 := bools_get l hlt
      obtain ⟨ab, ao, rfl, had, hcl⟩ := hl.lit (by rw [bools_length]; omega)
      have wc := (hB.cell (p := ⟨ab, ao + k, none⟩) had).trans (hcl _ _ q0)
      have hki : (k : Int) < (l.length : Int) := by omega
      have hk0 : (0 : Int) ≤ (k : Int) := by omega
      have H := hid (show l.take (k + 1) = l.take k ++ [bitAt l k] by
        rw [List.take_succ_eq_append_getElem hlt]
        have := bitAt_get l k hlt
        rw [List.getElem?_eq_getElem hlt] at this
        injection this with this
        rw [this])
      have hlk : (l.take k).length + 1 ≤ 4294967296 := by rw [List.length_take]; omega
      clear q0 hcl
      go_wp2_with fail
      refine (bit_any _ w.heap.size w.heap.size v (l.take k) _ hlk hb hsz).mono ?_
      rintro e w1 ⟨rfl, v1, hb1, hat1, ho1⟩
      have hB1 := hB.trans (putDone_below hb (Nat.le_refl _) (Nat.le_refl _) hsz ho1)
      rw [← H.out] at hb1
      go_wp2
      go_roundw
      case rel => exact ⟨k + 1, v1, by omega, by go_num, hb1, hB1⟩
      case measure => simp [intOf]; omega
    · obtain rfl : k = l.length := by omega
      rw [List.take_length] at hb
      go_wp2_with fail
      refine (row_any _ _ _ _ _ hb hn).mono ?_
      rintro e w2 ⟨g2, A2, c2, rfl, hr2, h1, h2, hB2⟩
      go_wp2
      go_ret
      exact ⟨g2, A2, c2, rfl, hr2, by omega, fun ad h => by have := h2 ad h; omega, hB.trans (hB2.mono hsz)⟩

theorem L.nest_snoc : ∀ (l : List Nat) (b : Nat), nest (l ++ [b]) = nest l + 2 ^ (8 * l.length) * b
  | [], b => by simp [nest]
  | a :: l, b => by
    have := nest_snoc l b
    rw [List.cons_append, nest, nest, this, List.length_cons, show 8 * (l.length + 1) = 8 + 8 * l.length from by omega, Nat.pow_add]
    rw [Nat.mul_add, show (2 : Nat) ^ 8 = 256 from by decide, Nat.mul_assoc]; omega

theorem L.leTo_lt (s : ByteArray) (k : Nat) : leTo s k < 2 ^ (8 * k) := by
  have h := nest_lt (nats (s.data.toList.take k)) (nats_lt _)
  have h2 : (nats (s.data.toList.take k)).length ≤ k := by simp [nats, List.length_take]; omega
  have h3 : (256 : Nat) ^ (nats (s.data.toList.take k)).length ≤ 256 ^ k := Nat.pow_le_pow_right (by omega) h2
  rw [Nat.pow_mul, show (2 : Nat) ^ 8 = 256 from by decide]
  unfold leTo; omega

theorem L.leTo_succ (s : ByteArray) (k : Nat) (h : k < s.size) (hk : k < 8) : leTo s (k + 1) = leTo s k ||| (s[k].toNat * 2 ^ (8 * k) % 18446744073709551616) := by
  have e : nats (s.data.toList.take (k + 1)) = nats (s.data.toList.take k) ++ [s[k].toNat] := by
    rw [List.take_succ_eq_append_getElem (by simpa using h), nats, List.map_append]; rfl
  have hl : (nats (s.data.toList.take k)).length = k := by
    simp only [nats, List.length_map, List.length_take, Array.length_toList]
    have : s.data.size = s.size := rfl
    omega
  have hlt := leTo_lt s k
  have hb : s[k].toNat < 256 := UInt8.toNat_lt _
  have hm : s[k].toNat * 2 ^ (8 * k) % 18446744073709551616 = s[k].toNat * 2 ^ (8 * k) := by
    apply Nat.mod_eq_of_lt
    have h1 : (2 : Nat) ^ (8 * k) ≤ 2 ^ 56 := Nat.pow_le_pow_right (by omega) (by omega)
    have h2 : (2 : Nat) ^ 56 * 256 = 18446744073709551616 := by decide
    calc s[k].toNat * 2 ^ (8 * k) ≤ s[k].toNat * 2 ^ 56 := Nat.mul_le_mul_left _ h1
      _ < 2 ^ 56 * 256 := by omega
      _ = _ := h2
  rw [hm, Nat.or_comm, nat_join (8 * k) _ _ (by simp) hlt]
  unfold leTo
  rw [e, nest_snoc, hl, Nat.mul_comm]; omega

set_option maxHeartbeats 400000 in
theorem number_any (s : ByteArray) (w : World) (hs : 8 ≤ s.size) :
    Calls Tryd.prog 120 #[.string s] w fun e w' => e = .returned (.int .u64 (leTo s 8 : Nat)) ∧ w = w' := by
  go_enter Tryd.func120, Tryd.ntmps120
  go_wp2
  go_loop [3, 5] (fun v i => ∃ k : Nat, k ≤ 8 ∧ i = .int .i64 k ∧ v = .int .u64 (leTo s k : Nat)) (fun _ i => 8 - (intOf i).toNat)
  case atStart => exact ⟨0, by omega, rfl, by simp [leTo, nats, nest]⟩
  case round =>
    obtain ⟨k, hk, rfl, rfl⟩ := hrel
    rcases Nat.lt_or_ge k 8 with hlt | hge
    · have hsz : k < s.size := by omega
      have H := hid (leTo_succ s k hsz hlt)
      have hb : (s[k].toNat : Int) < 256 := by have := UInt8.toNat_lt s[k]; omega
      have hl64 : leTo s k < 18446744073709551616 := Nat.lt_of_lt_of_le (leTo_lt s k) (pow_le64 (by omega))
      go_wp2
      go_round
      case rel =>
        refine ⟨k + 1, by omega, by go_num, ?_⟩
        rw [or_shl _ _ _ hl64, H.out]
      case measure => simp [intOf]; omega
    · obtain rfl : k = 8 := by omega
      go_wp2
      go_ret
      exact ⟨rfl, rfl⟩

end Go.Proofs.YtlpnbkfcbamnbaaDoor
