/- Walks: the laws ParenTwo and ParenBalanced return true. -/
import Derived.Test.YtdhokioiloggeaaLawParen
set_option linter.unusedVariables false
set_option linter.unusedSimpArgs false
set_option maxRecDepth 100000
namespace Go.Proofs.Ytdhokioiloggeaa
open Go.RowKit L

set_option maxHeartbeats 1000000 in
theorem lawParenTwo_long (A : Option Addr) (n c : Nat) (i j : Int) (w : World) (hn : 60 < n) :
    Calls Try.prog 16 #[.slice A n c, .int .u16 i, .int .u16 j] w fun e w' => e = .returned (.bool true) ∧ Below w.heap.size w w' := by
  have h1 : (60 : Int) < (n : Int) := by omega
  go_enter Try.func16, Try.ntmps16
  go_wp2_with fail
  refine (awake6 _).mono ?_
  rintro e w1 ⟨rfl, hB1⟩
  go_wp2_with fail
  refine (awake6 _).mono ?_
  rintro e w2 ⟨rfl, hB2⟩
  go_wp2
  go_ret
  exact ⟨rfl, hB1.trans (hB2.mono hB1.size)⟩

theorem two_law (bs : List Bool) (a b : Int) (h0 : 0 ≤ a) (h : a ≤ b) :
    ex (sh (bitAt bs) (held bs.length 0)) (heldTo bs.length 0 a - held bs.length 0) + ex (sh (bitAt bs) (held bs.length a)) (heldTo bs.length a b - held bs.length a) + ex (sh (bitAt bs) (held bs.length b)) (heldTo bs.length b (bs.length : Nat) - held bs.length b) =
      ex (sh (bitAt bs) (held bs.length 0)) (heldTo bs.length 0 (bs.length : Nat) - held bs.length 0) := by
  have e0 : held bs.length 0 = 0 := by unfold held; omega
  have e1 : heldTo bs.length 0 a = held bs.length a := by unfold heldTo held; omega
  have e2 : heldTo bs.length a b = held bs.length b := by unfold heldTo held; omega
  have e3 : heldTo bs.length b (bs.length : Nat) = bs.length := by have := held_le bs.length b; unfold heldTo; omega
  have e4 : heldTo bs.length 0 (bs.length : Nat) = bs.length := by unfold heldTo held; omega
  have hm : held bs.length a ≤ held bs.length b := by unfold held; omega
  have hl := held_le bs.length b
  rw [e0, e1, e2, e3, e4]
  exact ex_two (bitAt bs) _ _ _ hm hl

set_option maxHeartbeats 4000000 in
theorem lawParenTwo_true (A : Option Addr) (c : Nat) (l : List (Nat × Int)) (p q : Int) (w : World) (hl : Lst w A (opCells l)) (hx : ∀ o ∈ l, o.1 < 18446744073709551616) (hn : l.length ≤ 60) (hp0 : 0 ≤ p) (hp1 : p ≤ 65535) (hq0 : 0 ≤ q) (hq1 : q ≤ 65535) :
    Calls Try.prog 16 #[.slice A l.length c, .int .u16 p, .int .u16 q] w fun e w' => e = .returned (.bool true) ∧ Below w.heap.size w w' := by
  have hbl := allPuts_length l
  obtain ⟨a, ha⟩ : ∃ a, a = min p q := ⟨_, rfl⟩
  obtain ⟨b, hb⟩ : ∃ b, b = max p q := ⟨_, rfl⟩
  have hab : a ≤ b := by omega
  have ha0 : 0 ≤ a := by omega
  have HA := hid ha.symm
  have HB := hid hb.symm
  clear ha hb
  go_enter Try.func16, Try.ntmps16
  go_wp2_with fail
  refine (awake6 _).mono ?_
  rintro e w1 ⟨rfl, hB1⟩
  have hz1 := hB1.size
  go_wp2_with fail
  refine (all_any A c l _ (hl.below hB1) hx hn).mono ?_
  rintro e w2 ⟨A2, c2, rfl, hl2, hA2, hB2, hc2⟩
  have hz2 := hB2.size
  generalize allPuts l = bs at *
  have hbs : bs.length ≤ 3840 := by omega
  go_wp2_with fail
  refine (made_any A2 c2 bs _ hl2 (by omega)).mono ?_
  rintro e w3 ⟨g3, A3, c3, rfl, hr3, _, _, hB3⟩
  have hz3 := hB3.size
  have hBa : Below w.heap.size w w3 := hB1.trans ((hB2.mono hz1).trans (hB3.mono (by omega)))
  clear hB1 hB2 hB3 hl2 hl
  have eA := HA.out
  have eB := HB.out
  have k1 := heldTo_le bs.length 0 a
  have k2 := heldTo_le bs.length a b
  have k3 := heldTo_le bs.length b (bs.length : Nat)
  have k4 := heldTo_le bs.length 0 (bs.length : Nat)
  have x1 := ex_abs (sh (bitAt bs) (held bs.length 0)) (heldTo bs.length 0 a - held bs.length 0)
  have x2 := ex_abs (sh (bitAt bs) (held bs.length a)) (heldTo bs.length a b - held bs.length a)
  have x3 := ex_abs (sh (bitAt bs) (held bs.length b)) (heldTo bs.length b (bs.length : Nat) - held bs.length b)
  have ht := two_law bs a b ha0 hab
  have H1 := hid (fun W hW => pExcess_any g3 A3 c3 bs 0 a W hW)
  have H2 := hid (fun W hW => pExcess_any g3 A3 c3 bs a b W hW)
  have H3 := hid (fun W hW => pExcess_any g3 A3 c3 bs b (bs.length : Nat) W hW)
  have H4 := hid (fun W hW => pExcess_any g3 A3 c3 bs 0 (bs.length : Nat) W hW)
  generalize ex (sh (bitAt bs) (held bs.length 0)) (heldTo bs.length 0 a - held bs.length 0) = y1 at *
  generalize ex (sh (bitAt bs) (held bs.length a)) (heldTo bs.length a b - held bs.length a) = y2 at *
  generalize ex (sh (bitAt bs) (held bs.length b)) (heldTo bs.length b (bs.length : Nat) - held bs.length b) = y3 at *
  generalize ex (sh (bitAt bs) (held bs.length 0)) (heldTo bs.length 0 (bs.length : Nat) - held bs.length 0) = y4 at *
  go_wp2_with fail
  refine (H1.out _ hr3).mono ?_
  rintro e w' ⟨rfl, m1, rfl⟩
  go_wp2_with fail
  refine (H2.out _ (by exact hr3)).mono ?_
  rintro e w' ⟨rfl, m2, rfl⟩
  go_wp2_with fail
  refine (H3.out _ (by exact hr3)).mono ?_
  rintro e w' ⟨rfl, m3, rfl⟩
  go_wp2_with fail
  refine (H4.out _ (by exact hr3)).mono ?_
  rintro e w' ⟨rfl, m4, rfl⟩
  go_wp2
  go_ret
  exact ⟨by first | rfl | exact ret_bool' (by simp), below_drewN hBa _⟩

theorem lawParenTwo_any (A : Option Addr) (c : Nat) (l : List (Nat × Int)) (p q : Int) (w : World) (hl : Lst w A (opCells l)) (hx : ∀ o ∈ l, o.1 < 18446744073709551616) (hp0 : 0 ≤ p) (hp1 : p ≤ 65535) (hq0 : 0 ≤ q) (hq1 : q ≤ 65535) :
    Calls Try.prog 16 #[.slice A l.length c, .int .u16 p, .int .u16 q] w fun e w' => e = .returned (.bool true) ∧ Below w.heap.size w w' := by
  rcases Nat.lt_or_ge 60 l.length with h | h
  · exact lawParenTwo_long A l.length c p q w h
  · exact lawParenTwo_true A c l p q w hl hx h hp0 hp1 hq0 hq1

end Go.Proofs.Ytdhokioiloggeaa
