/- Walks: the laws BitsOf and BitsBytes return true. -/
import Derived.Test.YtdhokioiloggeaaBitsK
set_option linter.unusedVariables false
set_option linter.unusedSimpArgs false
set_option maxRecDepth 100000
namespace Go.Proofs.Ytdhokioiloggeaa
open Go.RowKit L

set_option maxHeartbeats 2000000 in
theorem lawOf_long (s : ByteArray) (w : World) (hn : 600 < s.size) :
    Calls Try.prog 4 #[.string s] w fun e w' => e = .returned (.bool true) ∧ Below w.heap.size w w' := by
  have h1 : (600 : Int) < (s.size : Int) := by omega
  go_enter Try.func4, Try.ntmps4
  go_wp2_with fail
  refine (awake2 _).mono ?_
  rintro e w1 ⟨rfl, hB1⟩
  go_wp2_with fail
  refine (awake2 _).mono ?_
  rintro e w2 ⟨rfl, hB2⟩
  go_wp2
  go_ret
  exact ⟨rfl, hB1.trans (hB2.mono hB1.size)⟩

set_option maxHeartbeats 4000000 in
theorem lawOf_true (s : ByteArray) (w : World) (hn : s.size ≤ 600) :
    Calls Try.prog 4 #[.string s] w fun e w' => e = .returned (.bool true) ∧ Below w.heap.size w w' := by
  have h1 : (s.size : Int) ≤ 600 := by omega
  go_enter Try.func4, Try.ntmps4
  go_wp2_with fail
  refine (awake2 _).mono ?_
  rintro e w1 ⟨rfl, hB1⟩
  have hz1 := hB1.size
  go_wp2_with fail
  refine (of_any s _ (by omega)).mono ?_
  rintro e w2 ⟨hB2, ⟨hg, g, A, c, rfl, hr⟩ | ⟨hg, rfl⟩⟩
  · have hz2 := hB2.size
    go_wp2_with fail
    refine (refOf_any s _ hn).mono ?_
    rintro e w3 ⟨hB3, ⟨hg2, A2, c2, rfl, hl⟩ | ⟨hg2, x, rfl⟩⟩
    · have hr3 := hr.below hB3
      go_wp2_with fail
      refine (is_true g A c _ A2 c2 _ hr3 hl).mono ?_
      rintro e w4 ⟨rfl, m, rfl⟩
      go_wp2
      go_ret
      exact ⟨rfl, below_drewN (hB1.trans ((hB2.mono hz1).trans (hB3.mono (by omega)))) _⟩
    · exact absurd hg hg2
  · have hz2 := hB2.size
    go_wp2_with fail
    refine (refOf_any s _ hn).mono ?_
    rintro e w3 ⟨hB3, ⟨hg2, A2, c2, rfl, hl⟩ | ⟨hg2, x, rfl⟩⟩
    · exact absurd hg2 hg
    · go_wp2
      go_ret
      exact ⟨rfl, hB1.trans ((hB2.mono hz1).trans (hB3.mono (by omega)))⟩

theorem lawOf_any (s : ByteArray) (w : World) :
    Calls Try.prog 4 #[.string s] w fun e w' => e = .returned (.bool true) ∧ Below w.heap.size w w' := by
  rcases Nat.lt_or_ge 600 s.size with h | h
  · exact lawOf_long s w h
  · exact lawOf_true s w h

set_option maxHeartbeats 2000000 in
theorem lawBytes_long (A : Option Addr) (n c : Nat) (w : World) (hn : 60 < n) :
    Calls Try.prog 7 #[.slice A n c] w fun e w' => e = .returned (.bool true) ∧ Below w.heap.size w w' := by
  have h1 : (60 : Int) < (n : Int) := by omega
  go_enter Try.func7, Try.ntmps7
  go_wp2_with fail
  refine (awake2 _).mono ?_
  rintro e w1 ⟨rfl, hB1⟩
  go_wp2_with fail
  refine (awake2 _).mono ?_
  rintro e w2 ⟨rfl, hB2⟩
  go_wp2
  go_ret
  exact ⟨rfl, hB1.trans (hB2.mono hB1.size)⟩

set_option maxHeartbeats 4000000 in
theorem lawBytes_true (A : Option Addr) (c : Nat) (l : List (Nat × Int)) (w : World) (hl : Lst w A (opCells l)) (hx : ∀ o ∈ l, o.1 < 18446744073709551616) (hn : l.length ≤ 60) :
    Calls Try.prog 7 #[.slice A l.length c] w fun e w' => e = .returned (.bool true) ∧ Below w.heap.size w w' := by
  have hbl := allPuts_length l
  go_enter Try.func7, Try.ntmps7
  go_wp2_with fail
  refine (awake2 _).mono ?_
  rintro e w1 ⟨rfl, hB1⟩
  have hz1 := hB1.size
  go_wp2_with fail
  refine (all_any A c l _ (hl.below hB1) hx hn).mono ?_
  rintro e w2 ⟨A2, c2, rfl, hl2, hA2, hB2, hc2⟩
  have hz2 := hB2.size
  generalize allPuts l = bs at *
  have hbs : bs.length ≤ 3840 := by omega
  go_wp2_with fail
  refine (made_any A2 c2 bs _ hl2 (by omega)).mono ?_
  rintro e w3 ⟨g3, A3, c3, rfl, hr3, _, _, hB3⟩
  have hz3 := hB3.size
  have hl3 := hl2.below hB3
  go_wp2_with fail
  refine (rbytes_any g3 A3 c3 bs _ hr3).mono ?_
  rintro e w4 ⟨rfl, hB4⟩
  have hz4 := hB4.size
  have hl4 := hl3.below hB4
  have hBa : Below w.heap.size w w4 := hB1.trans ((hB2.mono hz1).trans ((hB3.mono (by omega)).trans (hB4.mono (by omega))))
  have hgood := row_good bs (by omega)
  have hbits := row_bits bs
  have hval := row_val bs (by omega)
  have hlen := row_length bs
  have hof := of_any ⟨(rowBytes bs).toArray⟩ w4 (by show (rowBytes bs).toArray.size ≤ _; rw [List.size_toArray, hlen]; unfold nwords; omega)
  have HO : Calls Try.prog 25 #[.string ⟨(rowBytes bs).toArray⟩] w4 fun e w' => Below w4.heap.size w4 w' ∧ ∃ g A c, e = .returned (.tuple #[.pointer (some ⟨g, 0, none⟩), .int .i64 0]) ∧ RowAt w' g A c bs := by
    refine hof.mono ?_
    rintro e w' ⟨hB, ⟨_, g, A, c, rfl, hr⟩ | ⟨hng, _⟩⟩
    · refine ⟨hB, g, A, c, rfl, ?_⟩
      have e1 : (⟨(rowBytes bs).toArray⟩ : ByteArray).data.toList = rowBytes bs := rfl
      rw [e1, hval, hbits] at hr
      exact hr
    · exact absurd hgood hng
  have HOH := hid HO
  have hrb := fun W hW => refBytes_any A2 c2 bs W hW (by omega)
  clear hgood hbits hval hlen hof HO hB1 hB2 hB3 hB4 hl2 hl3 hr3
  generalize rowBytes bs = rb at *
  go_wp2_with fail
  refine HOH.out.mono ?_
  rintro e w5 ⟨hB5, g5, A5, c5, rfl, hr5⟩
  have hz5 := hB5.size
  have hl5 := hl4.below hB5
  go_wp2_with fail
  refine (hrb _ hl5).mono ?_
  rintro e w6 ⟨rfl, hB6⟩
  have hr6 := hr5.below hB6
  have hl6 := hl5.below hB6
  go_wp2_with fail
  refine (is_true g5 A5 c5 bs A2 c2 _ hr6 hl6).mono ?_
  rintro e w7 ⟨rfl, m, rfl⟩
  go_wp2
  go_ret
  exact ⟨rfl, below_drewN (hBa.trans ((hB5.mono (by omega)).trans (hB6.mono (by omega)))) _⟩

theorem lawBytes_any (A : Option Addr) (c : Nat) (l : List (Nat × Int)) (w : World) (hl : Lst w A (opCells l)) (hx : ∀ o ∈ l, o.1 < 18446744073709551616) :
    Calls Try.prog 7 #[.slice A l.length c] w fun e w' => e = .returned (.bool true) ∧ Below w.heap.size w w' := by
  rcases Nat.lt_or_ge 60 l.length with h | h
  · exact lawBytes_long A l.length c w h
  · exact lawBytes_true A c l w hl hx h

end Go.Proofs.Ytdhokioiloggeaa
