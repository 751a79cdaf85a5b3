/- Walks: the law ParenFinds returns true. -/
import Derived.Test.YtdhokioiloggeaaLawParen
set_option linter.unusedVariables false
set_option linter.unusedSimpArgs false
set_option maxRecDepth 100000
namespace Go.Proofs.Ytdhokioiloggeaa
open Go.RowKit L

theorem quiet_more {P : Program} {f : FuncId} {args : Array Value} {w : World} {v : Value} {n : Nat} (h : Calls P f args (w.drewN n) fun e w' => e = .returned v ∧ ∃ m, w' = (w.drewN n).drewN m) :
    Calls P f args (w.drewN n) fun e w'' => e = .returned v ∧ ∃ m, w'' = w.drewN m := h.mono fun _ _ ⟨he, m, hw⟩ => ⟨he, n + m, by rw [hw, World.drewN_drewN]⟩

def askCells (l : List (Int × Int × Int)) : List Value := l.flatMap fun o => [.int .i64 o.1, .int .i64 o.2.1, .int .i64 o.2.2]
theorem askCells_get (l : List (Int × Int × Int)) (k : Nat) (h : k < l.length) : (askCells l)[k * 3]? = some (.int .i64 l[k].1) ∧ (askCells l)[k * 3 + 1]? = some (.int .i64 l[k].2.1) ∧ (askCells l)[k * 3 + 2]? = some (.int .i64 l[k].2.2) := by
  induction l generalizing k with
  | nil => simp at h
  | cons o l ih =>
    cases k with
    | zero => exact ⟨rfl, rfl, rfl⟩
    | succ k =>
      have := ih k (by simpa using h)
      have e : askCells (o :: l) = [Value.int .i64 o.1, .int .i64 o.2.1, .int .i64 o.2.2] ++ askCells l := rfl
      rw [e]
      refine ⟨?_, ?_, ?_⟩
      · rw [List.getElem?_append_right (by simp; omega)]
        simpa [show (k + 1) * 3 - 3 = k * 3 from by omega] using this.1
      · rw [List.getElem?_append_right (by simp; omega)]
        simpa [show (k + 1) * 3 + 1 - 3 = k * 3 + 1 from by omega] using this.2.1
      · rw [List.getElem?_append_right (by simp; omega)]
        simpa [show (k + 1) * 3 + 2 - 3 = k * 3 + 2 from by omega] using this.2.2

set_option maxHeartbeats 1000000 in
theorem lawParenFinds_long (A : Option Addr) (n c : Nat) (B : Option Addr) (m d : Nat) (w : World) (hn : 60 < n ∨ 10 < m) :
    Calls Try.prog 17 #[.slice A n c, .slice B m d] w fun e w' => e = .returned (.bool true) ∧ Below w.heap.size w w' := by
  rcases Nat.lt_or_ge 60 n with h | h
  · have h1 : (60 : Int) < (n : Int) := by omega
    go_enter Try.func17, Try.ntmps17
    go_wp2_with fail
    refine (awake6 _).mono ?_
    rintro e w1 ⟨rfl, hB1⟩
    go_wp2_with fail
    refine (awake6 _).mono ?_
    rintro e w2 ⟨rfl, hB2⟩
    go_wp2
    go_ret
    exact ⟨rfl, hB1.trans (hB2.mono hB1.size)⟩
  · have h1 : (n : Int) ≤ 60 := by omega
    have h2 : (10 : Int) < (m : Int) := by omega
    go_enter Try.func17, Try.ntmps17
    go_wp2_with fail
    refine (awake6 _).mono ?_
    rintro e w1 ⟨rfl, hB1⟩
    go_wp2_with fail
    refine (awake6 _).mono ?_
    rintro e w2 ⟨rfl, hB2⟩
    go_wp2
    go_ret
    exact ⟨rfl, hB1.trans (hB2.mono hB1.size)⟩

set_option maxHeartbeats 8000000 in
theorem lawParenFinds_true (A : Option Addr) (c : Nat) (l : List (Nat × Int)) (B : Option Addr) (d : Nat) (qs : List (Int × Int × Int)) (w : World) (hl : Lst w A (opCells l)) (hx : ∀ o ∈ l, o.1 < 18446744073709551616) (hqs : Lst w B (askCells qs)) (hn : l.length ≤ 60) (hm : qs.length ≤ 10)
    (hq : ∀ o ∈ qs, (-9223372036854775808 ≤ o.1 ∧ o.1 ≤ 9223372036854775807) ∧ (-9223372036854775808 ≤ o.2.1 ∧ o.2.1 ≤ 9223372036854775807) ∧ (-9223372036854775808 ≤ o.2.2 ∧ o.2.2 ≤ 9223372036854775807)) :
    Calls Try.prog 17 #[.slice A l.length c, .slice B qs.length d] w fun e w' => e = .returned (.bool true) ∧ Below w.heap.size w w' := by
  have hbl := allPuts_length l
  go_enter Try.func17, Try.ntmps17
  go_wp2_with fail
  refine (awake6 _).mono ?_
  rintro e w1 ⟨rfl, hB1⟩
  have hz1 := hB1.size
  go_wp2_with fail
  refine (all_any A c l _ (hl.below hB1) hx hn).mono ?_
  rintro e w2 ⟨A2, c2, rfl, hl2, hA2, hB2, hc2⟩
  have hz2 := hB2.size
  generalize allPuts l = bs at *
  have hbs : bs.length ≤ 3840 := by omega
  go_wp2_with fail
  refine (made_any A2 c2 bs _ hl2 (by omega)).mono ?_
  rintro e w3 ⟨g3, A3, c3, rfl, hr3, _, _, hB3⟩
  have hz3 := hB3.size
  have hl3 := hl2.below hB3
  have hBa : Below w.heap.size w w3 := hB1.trans ((hB2.mono hz1).trans (hB3.mono (by omega)))
  have hza := hBa.size
  have hqs3 := hqs.below hBa
  clear hB1 hB2 hB3 hl2 hl hqs
  go_wp2_with fail
  go_loopw [7] (fun i wr => ∃ k : Nat, k ≤ qs.length ∧ i = .int .i64 k ∧ Below w3.heap.size w3 wr) (fun i _ => qs.length - (intOf i).toNat)
  case atStart => exact ⟨0, by omega, rfl, Below.refl _ _⟩
  case round =>
    obtain ⟨k, hk, rfl, hB⟩ := hrel
    have hsz := hB.size
    have hrr := hr3.below hB
    have hlr := hl3.below hB
    rcases Nat.lt_or_ge k qs.length with hlt | hge
    · have hki : (k : Int) < (qs.length : Int) := by omega
      have hk0 : (0 : Int) ≤ (k : Int) := by omega
      obtain ⟨q0, q1, q2⟩ := askCells_get qs k hlt
      obtain ⟨ab, ao, rfl, had, hcl⟩ := hqs3.lit (by have := (List.getElem?_eq_some_iff.1 q0).1; omega)
      have wc0 := (hB.cell (p := ⟨ab, ao + k * 3, none⟩) had).trans (hcl _ _ q0)
      have wc1 := (hB.cell (p := ⟨ab, ao + k * 3 + 1, none⟩) had).trans (hcl _ _ q1)
      have wc2 := (hB.cell (p := ⟨ab, ao + k * 3 + 2, none⟩) had).trans (hcl _ _ q2)
      obtain ⟨_, _, hd1, hd2⟩ := hq _ (List.getElem_mem hlt)
      clear q0 q1 q2 hcl hqs3
      generalize qs[k].1 = p1 at *
      generalize qs[k].2.1 = p2 at *
      generalize qs[k].2.2 = p3 at *
      have H1 := hid (fun W hW => pForth_any g3 A3 c3 bs p1 p2 p3 W hW hd1 hd2)
      have H2 := hid (fun W hW => pBack_any g3 A3 c3 bs p1 p2 p3 W hW hd1 hd2)
      have H3 := hid (fun W hW => refForth_any A2 c2 bs p1 p2 p3 W hW (by omega))
      have H4 := hid (fun W hW => refBack_any A2 c2 bs p1 p2 p3 W hW (by omega))
      generalize forthN (bitAt bs) (held bs.length p1) (heldTo bs.length p1 p2) p3 = fo at *
      generalize backN (bitAt bs) (held bs.length p1) (heldTo bs.length p1 p2) p3 = ba at *
      have hr4 := hrr.below ((Below.refl _ _).alloc (Nat.le_refl _) (.cells #[.int .i64 p1, .int .i64 p2, .int .i64 p3] 81))
      have hl4 := hlr.below ((Below.refl _ _).alloc (Nat.le_refl _) (.cells #[.int .i64 p1, .int .i64 p2, .int .i64 p3] 81))
      go_wp2
      go_quiet ((first
        | (go_at_call 54; exact quiet_more (H1.out _ (by exact hr4)))
        | (go_at_call 56; exact quiet_more (H2.out _ (by exact hr4)))
        | (go_at_call 55; exact quiet_left (H3.out _ (by exact hl4)))
        | (go_at_call 57; exact quiet_left (H4.out _ (by exact hl4)))))
      go_wp2
      go_roundw
      case rel => exact ⟨k + 1, by omega, by go_num, below_drewN (hB.alloc hsz _) _⟩
      case measure => simp [intOf]; omega
    · obtain rfl : k = qs.length := by omega
      have hki : ¬ ((qs.length : Int) < (qs.length : Int)) := by omega
      go_wp2
      go_ret
      exact ⟨rfl, hBa.trans (hB.mono hza)⟩

theorem lawParenFinds_any (A : Option Addr) (c : Nat) (l : List (Nat × Int)) (B : Option Addr) (d : Nat) (qs : List (Int × Int × Int)) (w : World) (hl : Lst w A (opCells l)) (hx : ∀ o ∈ l, o.1 < 18446744073709551616) (hqs : Lst w B (askCells qs))
    (hq : ∀ o ∈ qs, (-9223372036854775808 ≤ o.1 ∧ o.1 ≤ 9223372036854775807) ∧ (-9223372036854775808 ≤ o.2.1 ∧ o.2.1 ≤ 9223372036854775807) ∧ (-9223372036854775808 ≤ o.2.2 ∧ o.2.2 ≤ 9223372036854775807)) :
    Calls Try.prog 17 #[.slice A l.length c, .slice B qs.length d] w fun e w' => e = .returned (.bool true) ∧ Below w.heap.size w w' := by
  by_cases h : 60 < l.length ∨ 10 < qs.length
  · exact lawParenFinds_long A l.length c B qs.length d w h
  · exact lawParenFinds_true A c l B d qs w hl hx hqs (by omega) (by omega) hq

end Go.Proofs.Ytdhokioiloggeaa
