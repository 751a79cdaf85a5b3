/- Walks: the reference's row of some bytes. -/
import Derived.Test.YtdhokioiloggeaaBitsJ
set_option linter.unusedVariables false
set_option linter.unusedSimpArgs false
set_option maxRecDepth 100000
namespace Go.Proofs.Ytdhokioiloggeaa
open Go.RowKit L

/-- What the reference's Of leaves. -/
def ROfPost (l : List UInt8) (w : World) (e : Ending) (w' : World) : Prop :=
  Below w.heap.size w w' ∧ ((goodL l ∧ ∃ A c, e = .returned (.tuple #[.slice A (bitsL l (valL l)).length c, .bool true]) ∧ Lst w' A (bools (bitsL l (valL l)))) ∨ (¬ goodL l ∧ ∃ x, e = .returned (.tuple #[x, .bool false])))

theorem L.nest_dig : ∀ (l : List Nat) (j : Nat), (∀ b ∈ l, b < 256) → nest l / 256 ^ j % 256 = l[j]?.getD 0
  | [], j, _ => by simp [nest]
  | b :: l, 0, h => by have := h b List.mem_cons_self; simp [nest]; omega
  | b :: l, j + 1, h => by
    have ih := L.nest_dig l j (fun c hc => h c (List.mem_cons_of_mem _ hc))
    have hb := h b List.mem_cons_self
    rw [Nat.pow_succ, Nat.mul_comm, ← Nat.div_div_eq_div_mul, show nest (b :: l) / 256 = nest l from by simp only [nest]; omega, ih]
    simp

theorem L.val_div (l : List UInt8) (j : Nat) (hj : j < 8) (h : 8 ≤ l.length) : valL l / 256 ^ j = valL l / 256 ^ (j + 1) * 256 + (l[j]'(by omega)).toNat := by
  have h1 := L.nest_dig (nats (l.take 8)) j (nats_lt _)
  rw [nats, List.getElem?_map, List.getElem?_take, if_pos hj, List.getElem?_eq_getElem (by omega)] at h1
  simp only [Option.map_some, Option.getD_some] at h1
  have h2 : valL l = nest ((l.take 8).map UInt8.toNat) := rfl
  rw [← h2] at h1
  rw [Nat.pow_succ, ← Nat.div_div_eq_div_mul]
  omega
theorem L.valL_lt (l : List UInt8) : valL l < 256 ^ 8 := by
  have h := nest_lt (nats (l.take 8)) (nats_lt _)
  have h2 : (nats (l.take 8)).length ≤ 8 := by simp [nats, List.length_take]; omega
  have h3 : (256 : Nat) ^ (nats (l.take 8)).length ≤ 256 ^ 8 := Nat.pow_le_pow_right (by omega) h2
  unfold valL; omega

theorem u8_bit1 (x i : Nat) (hx : x < 256) : (bits BinOp.and IntKind.u8 ((x : Int) / 2 ^ i) 1 == 1) = x.testBit i := by
  have e : (x : Int) / 2 ^ i = ((x / 2 ^ i : Nat) : Int) := by simp
  rw [e]
  have e2 := u8_and_nat (x / 2 ^ i) 1 (Nat.lt_of_le_of_lt (Nat.div_le_self _ _) hx) (by omega)
  have e3 : bits BinOp.and IntKind.u8 ((x / 2 ^ i : Nat) : Int) 1 = ((x / 2 ^ i % 2 : Nat) : Int) := by
    have := e2; rw [Nat.and_one_is_mod] at this; exact this
  rw [e3, Nat.testBit_eq_decide_div_mod_eq]
  rcases Nat.mod_two_eq_zero_or_one (x / 2 ^ i) with h0 | h0 <;> rw [h0] <;> rfl

theorem bytes_toList (s : ByteArray) (j : Nat) (h : j < s.size) : s.data.toList[j]'(by simpa using h) = s[j] := rfl

set_option maxHeartbeats 1000000 in
theorem refOf_bad (s : ByteArray) (w : World) (h : s.size < 8 ∨ s.size % 8 ≠ 0) :
    Calls Try.prog 26 #[.string s] w (ROfPost s.data.toList w) := by
  have hsz : s.size = s.data.toList.length := by rw [Array.length_toList]; rfl
  have HB := hid (show ¬ goodL s.data.toList from fun hg => by
    have h1 := hg.1
    have h2 := hg.2.2.1
    omega)
  clear hsz
  rcases Nat.lt_or_ge s.size 8 with h1 | h1
  · have h2 : (s.size : Int) < 8 := by omega
    go_enter Try.func26, Try.ntmps26
    go_wp2
    go_ret2
    exact ⟨Below.refl _ _, .inr ⟨HB.out, _, rfl⟩⟩
  · have h2 : (8 : Int) ≤ (s.size : Int) := by omega
    have h3 : ((s.size : Int) % 8 != 0) = true := by rw [bne_iff_ne]; omega
    go_enter Try.func26, Try.ntmps26
    go_wp2
    go_ret2
    exact ⟨Below.refl _ _, .inr ⟨HB.out, _, rfl⟩⟩

set_option maxHeartbeats 4000000 in
theorem refOf_main (s : ByteArray) (w : World) (h : 8 ≤ s.size) (h8 : s.size % 8 = 0) (hs : s.size ≤ 600) :
    Calls Try.prog 26 #[.string s] w (ROfPost s.data.toList w) := by
  have hsz : s.size = s.data.toList.length := by rw [Array.length_toList]; rfl
  have h2 : (8 : Int) ≤ (s.size : Int) := by omega
  have h3 : ((s.size : Int) % 8 != 0) = false := by rw [bne_eq_false_iff_eq]; omega
  have HS := hid hsz
  have H8 := hid h8
  clear hsz h8
  have HV := hid (L.valL_lt s.data.toList)
  obtain ⟨i0, hi0, hz0, hz1, hz2⟩ := info_parts Try.infoBool
  go_enter Try.func26, Try.ntmps26
  go_wp2_with fail
  go_loop [4, 5] (fun n i => ∃ k : Nat, k ≤ 8 ∧ i = .int .i64 ((k : Int) - 1) ∧ n = .int .i64 (valL s.data.toList / 256 ^ k : Nat)) (fun _ i => (intOf i + 1).toNat)
  case atStart => exact ⟨8, by omega, rfl, by rw [Nat.div_eq_of_lt HV.out]; rfl⟩
  case round =>
    obtain ⟨k, hk, rfl, rfl⟩ := hrel
    rcases Nat.eq_zero_or_pos k with h0 | h0
    · subst h0
      rw [Nat.pow_zero, Nat.div_one]
      have HG1 := hid (show ∀ m, m < valL s.data.toList → m = 8 * (s.size - 8) → ¬ goodL s.data.toList from fun m h1 h2 hg => by
        have h3 := hg.2.2.1
        rw [← HS.out] at h3
        unfold nwords at h3
        omega)
      have HG2 := hid (show valL s.data.toList ≤ 8 * (s.size - 8) → (goodL s.data.toList ↔ (⟨(rowBytes (bitsL s.data.toList (valL s.data.toList))).toArray⟩ : ByteArray) = s) from fun h1 => by
        constructor
        · intro hg; rw [good_bytes hg]
        · intro he
          rw [good_iff]
          refine ⟨bitsL s.data.toList (valL s.data.toList), by rw [bitsL_length]; omega, ?_⟩
          have := congrArg (fun b : ByteArray => b.data.toList) he
          simpa using this.symm)
      have HBL := hid (bitsL_length s.data.toList)
      have HBS := hid (bitsL_succ s.data.toList)
      generalize hvv : valL s.data.toList = v at *
      have HVV := hid hvv
      clear hvv
      go_wp2_with fail
      go_loopw [6, 7] (fun l i wr => ∃ (m : Nat) (A : Option Addr) (c : Nat), m ≤ v ∧ m ≤ 8 * (s.size - 8) ∧ i = .int .i64 m ∧ l = .slice A m c ∧ wr.ownsRow w.heap.size 4 1 (.slice A m c) m (bools (bitsL s.data.toList m)) ∧ Below w.heap.size w wr) (fun _ i _ => v - (intOf i).toNat)
      case atStart => exact ⟨0, none, 0, by omega, by omega, rfl, rfl, World.ownsRow_nil _ _ _ _, Below.refl _ _⟩
      case round =>
        obtain ⟨m, A, c, hm1, hm2, rfl, rfl, hown, hB⟩ := hrel
        have hsz := hB.size
        rcases Nat.lt_or_ge m v with hlt | hge
        · have hlti : (m : Int) < (v : Int) := by omega
          rcases Nat.lt_or_ge m (8 * (s.size - 8)) with hlt2 | hge2
          · have hlt2i : (m : Int) < 8 * ((s.size : Int) - 8) := by omega
            have hix : (8 + m / 8) < s.size := by omega
            have r1 : IntKind.i64.wrap (8 + (m : Int) / 8) = 8 + (m : Int) / 8 := by rw [IntKind.wrap_i64]; omega
            have r3 : (0 : Int) ≤ 8 + (m : Int) / 8 := by omega
            have r4 : 8 + (m : Int) / 8 < (s.size : Int) := by omega
            have r5 : (8 + (m : Int) / 8).toNat = 8 + m / 8 := by omega
            have hb := u8_bit1 (s[8 + m / 8]'hix).toNat (m % 8) (UInt8.toNat_lt _)
            go_wp2_with (first
              | (at_builtin
                 go_must (refine wpList_append_more _ rfl (.tmp 43) (.tmp 54) _ rfl w.heap.size 4 i0 _ 1 Try.underlying27 hi0 hz0 hz1 hz2 rfl (.slice A m c) m (bools (bitsL s.data.toList m)) rfl ?hown (some ⟨wr.heap.size, 0, none⟩) 1 1 [.bool ((s[8 + m / 8]'hix).toNat.testBit (m % 8))] rfl ?hls rfl ?h1 ?h63 ?hby ?hbs _ rfl ?_)
                 go_must (case hown => exact hown.alloc _)
                 go_must (case hls => exact lst_one _ _ _ _ rfl)
                 go_must (case h1 => simp [Value.oneCell'])
                 go_must (case h63 => simp only [maxLen]; omega)
                 go_must (case hby => omega)
                 go_must (case hbs => simp; omega)
                 intro A2 c2 w2 hown2 hgr2 hat2))
            have hB2 : Below w.heap.size w w2 := (hB.alloc hsz _).grown hgr2 (by simp; omega) (fun j hj => (hown.lt j hj).1)
            have hown3 : w2.ownsRow w.heap.size 4 1 (.slice A2 (m + 1) c2) (m + 1) (bools (bitsL s.data.toList (m + 1))) := by
              have hx : s.data.toList[8 + m / 8]?.getD 0 = s[8 + m / 8]'hix := by
                rw [List.getElem?_eq_getElem (by rw [← HS.out]; exact hix), Option.getD_some]; rfl
              rw [HBS.out, bools_append, hx]; exact hown2
            clear hown2 hgr2 hat2
            go_roundw
            case rel => exact ⟨m + 1, A2, c2, by omega, by omega, by go_num, rfl, hown3, hB2⟩
            case measure => simp [intOf] <;> omega
          · have hge2i : 8 * ((s.size : Int) - 8) ≤ (m : Int) := by omega
            have hne : ((m : Int) == (v : Int)) = false := by rw [beq_eq_false_iff_ne]; omega
            have hng := HG1.out m hlt (by omega)
            clear HG1 HG2
            go_wp2_with fail
            go_ret2
            exact ⟨hB, .inr ⟨hng, _, rfl⟩⟩
        · obtain rfl : m = v := by omega
          have hlst := own_lst hown
          have hlen : (bitsL s.data.toList m).length ≤ 1000000 := by rw [HBL.out]; omega
          have hby := refBytes_any A c (bitsL s.data.toList m) wr hlst hlen
          rw [HBL.out] at hby
          have hgg := HG2.out (by omega)
          have fin : ∀ w', Below wr.heap.size wr w' → Lst w' A (bools (bitsL s.data.toList m)) := fun w' h => hlst.below h
          clear HG1 HG2
          generalize rowBytes (bitsL s.data.toList m) = rb at *
          go_wp2_with fail
          refine hby.mono ?_
          rintro e w3 ⟨rfl, hB3⟩
          go_wp2_with fail
          go_ret2
          refine ⟨hB.trans (hB3.mono hsz), ?_⟩
          rw [ByteArray.toList_eq]
          have hrb : (⟨rb.toArray⟩ : ByteArray) = s ↔ rb = s.data.toList :=
            ⟨fun h => by have := congrArg (fun b : ByteArray => b.data.toList) h; simpa using this, fun h => by rw [h]⟩
          rw [hrb] at hgg
          by_cases hr : rb = s.data.toList
          · rw [HVV.out, HBL.out]
            refine .inl ⟨hgg.2 hr, A, c, ?_, fin w3 hB3⟩
            rw [beq_iff_eq.2 hr]
            rfl
          · refine .inr ⟨fun h => hr (hgg.1 h), .slice A m c, ?_⟩
            rw [beq_eq_false_iff_ne.2 hr]
            rfl
    · obtain ⟨j, rfl⟩ : ∃ j, k = j + 1 := ⟨k - 1, by omega⟩
      have HD := hid (L.val_div s.data.toList j (by omega) (by have := HS.out; omega))
      have hjs : j < s.size := by omega
      rw [show ((j + 1 : Nat) : Int) - 1 = (j : Int) from by omega]
      have hle : valL s.data.toList / 256 ^ (j + 1) ≤ valL s.data.toList := Nat.div_le_self _ _
      have HLE := hid hle
      clear hle
      have hb : (s[j].toNat : Int) < 256 := by have := UInt8.toNat_lt s[j]; omega
      generalize hq : valL s.data.toList / 256 ^ (j + 1) = q at *
      have HQ := hid hq
      clear hq
      rcases Nat.lt_or_ge 4294967296 q with hlt | hge
      · have hlt' : (4294967296 : Int) < (q : Int) := by omega
        go_wp2
        go_ret2
        exact ⟨Below.refl _ _, .inr ⟨fun hg => by have := hg.2.1; have := HLE.out; omega, _, rfl⟩⟩
      · have hge' : (q : Int) ≤ 4294967296 := by omega
        go_wp2
        go_round
        case rel => exact ⟨j, by omega, by simp, by rw [HD.out]; simp; rfl⟩
        case measure => simp [intOf] <;> omega

/-- Of of the reference, whatever comes. -/
theorem refOf_any (s : ByteArray) (w : World) (hs : s.size ≤ 600) :
    Calls Try.prog 26 #[.string s] w (ROfPost s.data.toList w) := by
  rcases Nat.lt_or_ge s.size 8 with h | h
  · exact refOf_bad s w (.inl h)
  · rcases Nat.eq_zero_or_pos (s.size % 8) with h8 | h8
    · exact refOf_main s w h h8 hs
    · exact refOf_bad s w (.inr (by omega))

/-- Of, whatever comes. -/
theorem of_any (s : ByteArray) (w : World) (hs : s.size ≤ 1000000) :
    Calls Try.prog 25 #[.string s] w (OfPost s.data.toList w) := by
  have hsz : s.size = s.data.toList.length := by rw [Array.length_toList]; rfl
  rcases Nat.lt_or_ge s.size 8 with h | h
  · refine (of_small s w h).mono ?_
    rintro e w' ⟨rfl, hB⟩
    exact ⟨hB, .inr ⟨fun hg => by have := hg.1; omega, rfl⟩⟩
  · rcases Nat.lt_or_ge 4294967296 (valL s.data.toList) with hv | hv
    · refine (of_large s w h hv).mono ?_
      rintro e w' ⟨rfl, hB⟩
      exact ⟨hB, .inr ⟨fun hg => by have := hg.2.1; omega, rfl⟩⟩
    · by_cases hl : s.size = 8 + 8 * nwords (valL s.data.toList)
      · exact of_main s w h hv hl hs
      · refine (of_length s w h hv hl hs).mono ?_
        rintro e w' ⟨rfl, hB⟩
        exact ⟨hB, .inr ⟨fun hg => by have := hg.2.2.1; omega, rfl⟩⟩

end Go.Proofs.Ytdhokioiloggeaa
