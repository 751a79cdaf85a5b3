/- Walks: the laws BitsReads, BitsParts, BitsEach return true. -/
import Derived.Test.YtdhokioiloggeaaBitsI
set_option linter.unusedVariables false
set_option linter.unusedSimpArgs false
set_option maxRecDepth 100000
namespace Go.Proofs.Ytdhokioiloggeaa
open Go.RowKit L

theorem rowBytes_inj_use {a b : List Bool} (h : a = b) : (Value.string ⟨(rowBytes a).toArray⟩) = .string ⟨(rowBytes b).toArray⟩ := by rw [h]

set_option maxHeartbeats 2000000 in
theorem lawReads_long (A : Option Addr) (n c : Nat) (p m : Int) (w : World) (hn : 60 < n) :
    Calls Try.prog 6 #[.slice A n c, .int .i64 p, .int .i64 m] w fun e w' => e = .returned (.bool true) ∧ Below w.heap.size w w' := by
  have h1 : (60 : Int) < (n : Int) := by omega
  go_enter Try.func6, Try.ntmps6
  go_wp2_with fail
  refine (awake2 _).mono ?_
  rintro e w1 ⟨rfl, hB1⟩
  go_wp2_with fail
  refine (awake2 _).mono ?_
  rintro e w2 ⟨rfl, hB2⟩
  go_wp2
  go_ret
  exact ⟨rfl, hB1.trans (hB2.mono hB1.size)⟩

theorem Try.elemBools : Try.prog.underlying 27 = some (.slice (Try.prog.elem 27)) := by kernel_rfl
theorem Try.sizeBool : ∀ w, (sizeOf (Try.prog.elem 27)).run Try.prog w = .ok 1 w := fun w => by kernel_rfl

theorem rField_okI (g : Nat) (A : Option Addr) (c : Nat) (bs : List Bool) (p n : Int) (w : World) (hr : RowAt w g A c bs) (hp : 0 ≤ p) (h0 : 0 ≤ n) (hn : n ≤ 64) (h : p ≤ bs.length - n) :
    Calls Try.prog 31 #[.pointer (some ⟨g, 0, none⟩), .int .i64 p, .int .i64 n] w fun e w' => e = .returned (.tuple #[.int .u64 (fld bs p.toNat n.toNat : Nat), .int .i64 0]) ∧ ∃ m, w' = w.drewN m := by
  obtain ⟨a, rfl⟩ := Int.eq_ofNat_of_zero_le hp
  obtain ⟨b, rfl⟩ := Int.eq_ofNat_of_zero_le h0
  exact rField_ok g A c bs a b w hr (by omega) (by omega)
theorem refField_anyI (A : Option Addr) (c : Nat) (bs : List Bool) (p n : Int) (w : World) (hl : Lst w A (bools bs)) (hp : 0 ≤ p) (h0 : 0 ≤ n) (hn : n ≤ 64) (h : p ≤ bs.length - n) (hs : bs.length ≤ 4294967296) :
    Calls Try.prog 32 #[.slice A bs.length c, .int .i64 p, .int .i64 n] w fun e w' => e = .returned (.int .u64 (fld bs p.toNat n.toNat : Nat)) ∧ w = w' := by
  obtain ⟨a, rfl⟩ := Int.eq_ofNat_of_zero_le hp
  obtain ⟨b, rfl⟩ := Int.eq_ofNat_of_zero_le h0
  exact refField_any A c bs a b w hl (by omega) (by omega) hs

theorem cut_bools (A : Option Addr) (bs : List Bool) (c lo hi : Nat) (h1 : lo ≤ hi) (h2 : hi ≤ bs.length) (h3 : bs.length ≤ c) :
    ∃ A', (∀ w, (Instr.slice 27 (.slice A bs.length c) (some (.int .i64 (lo : Nat))) (some (.int .i64 (hi : Nat))) none).run Try.prog w = .ok (.slice A' ((bs.drop lo).take (hi - lo)).length (c - lo)) w) ∧ ∀ w, Lst w A (bools bs) → Lst w A' (bools ((bs.drop lo).take (hi - lo))) := by
  have hbl := bools_length bs
  obtain ⟨A', h4, h5⟩ := run_cut 27 Try.elemBools Try.sizeBool A (bools bs) c lo hi h1 (by omega) (by omega)
  refine ⟨A', fun w => ?_, fun w hl => ?_⟩
  · have := h4 w
    rw [hbl] at this
    rw [this, show ((bs.drop lo).take (hi - lo)).length = hi - lo from by rw [List.length_take, List.length_drop]; omega]
  · have := h5 w hl
    simpa [bools] using this

set_option maxHeartbeats 8000000 in
theorem lawReads_true (A : Option Addr) (c : Nat) (l : List (Nat × Int)) (p m : Int) (w : World) (hl : Lst w A (opCells l)) (hx : ∀ o ∈ l, o.1 < 18446744073709551616) (hn : l.length ≤ 60) :
    Calls Try.prog 6 #[.slice A l.length c, .int .i64 p, .int .i64 m] w fun e w' => e = .returned (.bool true) ∧ Below w.heap.size w w' := by
  have hbl := allPuts_length l
  have H1 : min (max p 0) ((allPuts l).length : Int) = (cutLo (allPuts l).length p : Nat) := by unfold cutLo; omega
  have H2 : min (max m (cutLo (allPuts l).length p : Nat)) ((allPuts l).length : Int) = (cutHi (allPuts l).length p m : Nat) := by unfold cutHi; omega
  have hcb := cut_bd (allPuts l).length p m
  have HH1 := hid H1
  have HH2 := hid H2
  clear H1 H2
  go_enter Try.func6, Try.ntmps6
  go_wp2_with fail
  refine (awake2 _).mono ?_
  rintro e w1 ⟨rfl, hB1⟩
  have hz1 := hB1.size
  go_wp2_with fail
  refine (all_any A c l _ (hl.below hB1) hx hn).mono ?_
  rintro e w2 ⟨A2, c2, rfl, hl2, hA2, hB2, hc2⟩
  have hz2 := hB2.size
  generalize allPuts l = bs at *
  have hbs : bs.length ≤ 3840 := by omega
  go_wp2_with fail
  refine (made_any A2 c2 bs _ hl2 (by omega)).mono ?_
  rintro e w3 ⟨g3, A3, c3, rfl, hr3, _, _, hB3⟩
  have hl3 := hl2.below hB3
  have hB : Below w.heap.size w w3 := hB1.trans ((hB2.mono hz1).trans (hB3.mono (by omega)))
  have hcases : m < 0 ∨ 64 < m ∨ (0 ≤ m ∧ m ≤ 64 ∧ p < 0) ∨ (0 ≤ m ∧ m ≤ 64 ∧ 0 ≤ p ∧ (bs.length : Int) - m < p) ∨ (0 ≤ m ∧ m ≤ 64 ∧ 0 ≤ p ∧ p ≤ (bs.length : Int) - m) := by omega
  clear hB1 hB2 hB3 hl2 hl
  obtain ⟨A4, hcut, hl4⟩ := cut_bools A2 bs c2 (cutLo bs.length p) (cutHi bs.length p m) hcb.1 hcb.2 hc2
  have hl5 := hl4 _ hl3
  clear hl4
  obtain ⟨part, hp⟩ : ∃ part, part = (bs.drop (cutLo bs.length p)).take (cutHi bs.length p m - cutLo bs.length p) := ⟨_, rfl⟩
  rw [← hp] at hcut hl5
  have HP := hid hp
  clear hp
  have hsz := hB.size
  rcases hcases with h | h | ⟨h, h', h''⟩ | ⟨h, h', h'', h3⟩ | ⟨h, h', h'', h3⟩
  · go_wp2_with fail
    refine (rField_arg g3 p m _ (.inl h)).mono ?_
    rintro e w' ⟨rfl, rfl⟩
    have H1 := HH1.out
    have H2 := HH2.out
    go_wp2_with fail
    clear H1 H2
    go_region_held3 (fun _ => True) (trivial)
      (first
       | (go_at_call 33; refine (rword_any g3 A3 c3 bs p _ (by exact hr3)).mono ?_; rintro e w' ⟨rfl, rfl⟩)
       | (go_at_call 34; refine (refWord_any A2 c2 bs p _ (by exact hl3) (by omega)).mono ?_; rintro e w' ⟨rfl, rfl⟩)
       | (go_at_call 35; refine (clip_any g3 A3 c3 bs p m _ (by exact hr3)).mono ?_; rintro e w6 ⟨g6, A6, c6, rfl, hr6, _, _, hB6⟩; have hB7 : Below w3.heap.size w3 w6 := ⟨hB6.os, hB6.tape, hB6.output, hB6.size, hB6.block⟩; rw [← HP.out] at hr6)
       | (go_at_call 24; refine (is_true g6 A6 c6 part A4 _ _ (by exact hr6) (by exact hl5.to hB7.block)).mono ?_; rintro e w' ⟨rfl, m2, rfl⟩))
    go_wp2
    go_ret
    exact ⟨rfl, below_drewN (hB.trans (hB7.mono hsz)) _⟩
  · have h0 : 0 ≤ m := by omega
    go_wp2_with fail
    refine (rField_arg g3 p m _ (.inr h)).mono ?_
    rintro e w' ⟨rfl, rfl⟩
    have H1 := HH1.out
    have H2 := HH2.out
    go_wp2_with fail
    clear H1 H2
    go_region_held3 (fun _ => True) (trivial)
      (first
       | (go_at_call 33; refine (rword_any g3 A3 c3 bs p _ (by exact hr3)).mono ?_; rintro e w' ⟨rfl, rfl⟩)
       | (go_at_call 34; refine (refWord_any A2 c2 bs p _ (by exact hl3) (by omega)).mono ?_; rintro e w' ⟨rfl, rfl⟩)
       | (go_at_call 35; refine (clip_any g3 A3 c3 bs p m _ (by exact hr3)).mono ?_; rintro e w6 ⟨g6, A6, c6, rfl, hr6, _, _, hB6⟩; have hB7 : Below w3.heap.size w3 w6 := ⟨hB6.os, hB6.tape, hB6.output, hB6.size, hB6.block⟩; rw [← HP.out] at hr6)
       | (go_at_call 24; refine (is_true g6 A6 c6 part A4 _ _ (by exact hr6) (by exact hl5.to hB7.block)).mono ?_; rintro e w' ⟨rfl, m2, rfl⟩))
    go_wp2
    go_ret
    exact ⟨rfl, below_drewN (hB.trans (hB7.mono hsz)) _⟩
  · go_wp2_with fail
    refine (rField_range g3 A3 c3 bs p m _ hr3 h h' (.inl h'')).mono ?_
    rintro e w' ⟨rfl, rfl⟩
    have H1 := HH1.out
    have H2 := HH2.out
    go_wp2_with fail
    clear H1 H2
    go_region_held3 (fun _ => True) (trivial)
      (first
       | (go_at_call 33; refine (rword_any g3 A3 c3 bs p _ (by exact hr3)).mono ?_; rintro e w' ⟨rfl, rfl⟩)
       | (go_at_call 34; refine (refWord_any A2 c2 bs p _ (by exact hl3) (by omega)).mono ?_; rintro e w' ⟨rfl, rfl⟩)
       | (go_at_call 35; refine (clip_any g3 A3 c3 bs p m _ (by exact hr3)).mono ?_; rintro e w6 ⟨g6, A6, c6, rfl, hr6, _, _, hB6⟩; have hB7 : Below w3.heap.size w3 w6 := ⟨hB6.os, hB6.tape, hB6.output, hB6.size, hB6.block⟩; rw [← HP.out] at hr6)
       | (go_at_call 24; refine (is_true g6 A6 c6 part A4 _ _ (by exact hr6) (by exact hl5.to hB7.block)).mono ?_; rintro e w' ⟨rfl, m2, rfl⟩))
    go_wp2
    go_ret
    exact ⟨rfl, below_drewN (hB.trans (hB7.mono hsz)) _⟩
  · go_wp2_with fail
    refine (rField_range g3 A3 c3 bs p m _ hr3 h h' (.inr h3)).mono ?_
    rintro e w' ⟨rfl, rfl⟩
    have H1 := HH1.out
    have H2 := HH2.out
    go_wp2_with fail
    clear H1 H2
    go_region_held3 (fun _ => True) (trivial)
      (first
       | (go_at_call 33; refine (rword_any g3 A3 c3 bs p _ (by exact hr3)).mono ?_; rintro e w' ⟨rfl, rfl⟩)
       | (go_at_call 34; refine (refWord_any A2 c2 bs p _ (by exact hl3) (by omega)).mono ?_; rintro e w' ⟨rfl, rfl⟩)
       | (go_at_call 35; refine (clip_any g3 A3 c3 bs p m _ (by exact hr3)).mono ?_; rintro e w6 ⟨g6, A6, c6, rfl, hr6, _, _, hB6⟩; have hB7 : Below w3.heap.size w3 w6 := ⟨hB6.os, hB6.tape, hB6.output, hB6.size, hB6.block⟩; rw [← HP.out] at hr6)
       | (go_at_call 24; refine (is_true g6 A6 c6 part A4 _ _ (by exact hr6) (by exact hl5.to hB7.block)).mono ?_; rintro e w' ⟨rfl, m2, rfl⟩))
    go_wp2
    go_ret
    exact ⟨rfl, below_drewN (hB.trans (hB7.mono hsz)) _⟩
  · go_wp2_with fail
    refine (rField_okI g3 A3 c3 bs p m _ hr3 h'' h h' h3).mono ?_
    rintro e w' ⟨rfl, m5, rfl⟩
    have H1 := HH1.out
    have H2 := HH2.out
    go_wp2_with (go_at_call 32; refine (refField_anyI A2 c2 bs p m _ (by exact hl3) h'' h h' h3 (by omega)).mono ?_; rintro e w' ⟨rfl, rfl⟩)
    clear H1 H2
    go_region_held3 (fun _ => True) (trivial)
      (first
       | (go_at_call 33; refine (rword_any g3 A3 c3 bs p _ (by exact hr3)).mono ?_; rintro e w' ⟨rfl, rfl⟩)
       | (go_at_call 34; refine (refWord_any A2 c2 bs p _ (by exact hl3) (by omega)).mono ?_; rintro e w' ⟨rfl, rfl⟩)
       | (go_at_call 35; refine (clip_any g3 A3 c3 bs p m _ (by exact hr3)).mono ?_; rintro e w6 ⟨g6, A6, c6, rfl, hr6, _, _, hB6⟩; have hB7 : Below w3.heap.size w3 w6 := ⟨hB6.os, hB6.tape, hB6.output, hB6.size, hB6.block⟩; rw [← HP.out] at hr6)
       | (go_at_call 24; refine (is_true g6 A6 c6 part A4 _ _ (by exact hr6) (by exact hl5.to hB7.block)).mono ?_; rintro e w' ⟨rfl, m2, rfl⟩))
    go_wp2
    go_ret
    exact ⟨rfl, below_drewN (hB.trans (hB7.mono hsz)) _⟩

theorem lawReads_any (A : Option Addr) (c : Nat) (l : List (Nat × Int)) (p m : Int) (w : World) (hl : Lst w A (opCells l)) (hx : ∀ o ∈ l, o.1 < 18446744073709551616) :
    Calls Try.prog 6 #[.slice A l.length c, .int .i64 p, .int .i64 m] w fun e w' => e = .returned (.bool true) ∧ Below w.heap.size w w' := by
  rcases Nat.lt_or_ge 60 l.length with h | h
  · exact lawReads_long A l.length c p m w h
  · exact lawReads_true A c l p m w hl hx h

end Go.Proofs.Ytdhokioiloggeaa
