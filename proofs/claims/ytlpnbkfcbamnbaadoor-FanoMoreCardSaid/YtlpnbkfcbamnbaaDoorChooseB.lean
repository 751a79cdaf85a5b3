/- Walks: the search for a bit's word. -/
import Derived.Test.YtlpnbkfcbamnbaaDoorChooseA
import Derived.Test.YtlpnbkfcbamnbaaDoorWordC
import Derived.Deep.RegionHeld3
import Derived.Shelf.Abstract
set_option linter.unusedVariables false
set_option linter.unusedSimpArgs false
set_option maxRecDepth 100000
namespace Go.Proofs.YtlpnbkfcbamnbaaDoor
open Go.RowKit Go.Shelf L

/-- What tells ranks: a directory's method, bound. -/
def ahead (t : Bool) (gd : Nat) : Value := .func (.func (if t then 112 else 133)) #[.pointer (some ⟨gd, 0, none⟩)] #[]

theorem ahead_any (t : Bool) (gd gx : Nat) (A : Option Addr) (c : Nat) (bs : List Bool) (Ad : Option Addr) (cd : Nat) (i : Nat) (w : World) (hd : DirAt w gd gx A c bs Ad cd) :
    Calls Tryd.prog (if t then 112 else 133) #[.pointer (some ⟨gd, 0, none⟩), .int .i64 (i : Nat)] w fun e w' => e = .returned (.int .i64 (kc t bs i : Nat)) ∧ Below w.heap.size w w' := by
  cases t
  · have := rankZero_any gd gx A c bs Ad cd (i : Int) w hd
    rw [kc_zero] at this
    exact this
  · have := rankOne_any gd gx A c bs Ad cd (i : Int) w hd
    rw [kc_one] at this
    exact this

set_option maxHeartbeats 2000000 in
theorem find1_any (t : Bool) (gd gx : Nat) (A : Option Addr) (c : Nat) (bs : List Bool) (Ad : Option Addr) (cd : Nat) (b7 b10 b6 low k i p : Nat) (w : World) (hd : DirAt w gd gx A c bs Ad cd)
    (h7 : w.cell? ⟨b7, 0, none⟩ = some (ahead t gd)) (h10 : w.cell? ⟨b10, 0, none⟩ = some (.int .i64 (low : Nat))) (h6 : w.cell? ⟨b6, 0, none⟩ = some (.int .i64 (k : Nat))) (l7 : b7 < w.heap.size) (l10 : b10 < w.heap.size) (l6 : b6 < w.heap.size)
    (hp : p = low + (i + 1) * 64) (hb : p ≤ 17179869184) :
    Calls Tryd.prog 140 #[.int .i64 (i : Nat), .pointer (some ⟨b7, 0, none⟩), .pointer (some ⟨b10, 0, none⟩), .pointer (some ⟨b6, 0, none⟩)] w fun e w' =>
      e = .returned (.bool (decide (k < kc t bs p))) ∧ Below w.heap.size w w' := by
  have C1 : ∀ W, Below w.heap.size w W → Calls Tryd.prog (if t then 112 else 133) #[.pointer (some ⟨gd, 0, none⟩), .int .i64 (p : Nat)] W fun e w' => e = .returned (.int .i64 (kc t bs p : Nat)) ∧ Below w.heap.size w w' := fun W hW => by
    refine (ahead_any t gd gx A c bs Ad cd p W (hd.below hW)).mono ?_
    rintro e w' ⟨rfl, hB⟩
    exact ⟨rfl, hW.trans (hB.mono hW.size)⟩
  have H1 := hid C1
  have KC := hid (show ∀ W, Below w.heap.size w W → W.cell? ⟨b7, 0, none⟩ = some (ahead t gd) ∧ W.cell? ⟨b10, 0, none⟩ = some (.int .i64 (low : Nat)) ∧ W.cell? ⟨b6, 0, none⟩ = some (.int .i64 (k : Nat)) from fun W hW =>
    ⟨(hW.cell (p := ⟨b7, 0, none⟩) l7).trans h7, (hW.cell (p := ⟨b10, 0, none⟩) l10).trans h10, (hW.cell (p := ⟨b6, 0, none⟩) l6).trans h6⟩)
  have hB0 := Below.refl w.heap.size w
  have q1 : (low : Int) + ((i : Int) + 1) * 64 = (p : Int) := by omega
  have q2 : (i : Int) + 1 ≤ 17179869184 := by omega
  have q3 : ((i : Int) + 1) * 64 ≤ 17179869184 := by omega
  have q4 : IntKind.i64.wrap ((i : Int) + 1) = (i : Int) + 1 := by rw [IntKind.wrap_i64]; omega
  have q5 : IntKind.i64.wrap (((i : Int) + 1) * 64) = ((i : Int) + 1) * 64 := by rw [IntKind.wrap_i64]; omega
  have q6 : IntKind.i64.wrap (p : Int) = (p : Int) := by rw [IntKind.wrap_i64]; omega
  have HP := hid hp
  have hkc := kc_le t bs p
  have hce : ∀ args W, (callFunc (if t then 112 else 133) args).run Tryd.prog W = .ok (.enter (if t then 112 else 133) args) W := by
    cases t
    · exact enters_of Tryd.func133 (by kernel_rfl) rfl
    · exact enters_of Tryd.func112 (by kernel_rfl) rfl
  clear C1 hp
  generalize kc t bs p = kk at *
  unfold ahead at *
  generalize (if t then 112 else 133) = fa at *
  go_enter Tryd.func140, Tryd.ntmps140
  go_wp2_with fail
  go_region_held3 (fun w' => Below w.heap.size w w' ∧ w'.cell? ⟨b7, 0, none⟩ = some (.func (.func fa) #[.pointer (some ⟨gd, 0, none⟩)] #[]) ∧ w'.cell? ⟨b10, 0, none⟩ = some (.int .i64 (low : Nat)) ∧ w'.cell? ⟨b6, 0, none⟩ = some (.int .i64 (k : Nat)))
    (first | exact ⟨hB0.drew, h7, h10, h6⟩ | exact ⟨e1, KC.out _ e1⟩ | assumption)
    (first
     | (refine (H1.out _ (by first | assumption | exact And.left (by assumption))).mono ?_; rintro e w5 ⟨rfl, e1⟩))
  all_goals go_wp2
  all_goals go_ret
  all_goals exact ⟨ret_bool' (by first | rfl | (rw [Bool.eq_iff_iff]; simp)), by first | exact e1 | assumption | exact And.left (by assumption)⟩

set_option maxHeartbeats 2000000 in
theorem search_any (t : Bool) (gd gx : Nat) (A : Option Addr) (c : Nat) (bs : List Bool) (Ad : Option Addr) (cd : Nat) (b7 b10 b6 low k n : Nat) (w : World) (hd : DirAt w gd gx A c bs Ad cd)
    (h7 : w.cell? ⟨b7, 0, none⟩ = some (ahead t gd)) (h10 : w.cell? ⟨b10, 0, none⟩ = some (.int .i64 (low : Nat))) (h6 : w.cell? ⟨b6, 0, none⟩ = some (.int .i64 (k : Nat))) (l7 : b7 < w.heap.size) (l10 : b10 < w.heap.size) (l6 : b6 < w.heap.size)
    (hlow : low ≤ 4294967296) (hn : n ≤ 67108900) :
    Calls Tryd.prog 139 #[.int .i64 (n : Nat), .func (.func 140) #[] #[.pointer (some ⟨b7, 0, none⟩), .pointer (some ⟨b10, 0, none⟩), .pointer (some ⟨b6, 0, none⟩)]] w fun e w' =>
      ∃ r : Nat, e = .returned (.int .i64 (r : Nat)) ∧ r ≤ n ∧ (r = 0 ∨ kc t bs (low + r * 64) ≤ k) ∧ (r = n ∨ k < kc t bs (low + (r + 1) * 64)) ∧ Below w.heap.size w w' := by
  go_enter Tryd.func139, Tryd.ntmps139
  go_wp2_with fail
  go_loopw [5, 6] (fun a b wr => ∃ i j : Nat, i ≤ j ∧ j ≤ n ∧ a = .int .i64 (i : Nat) ∧ b = .int .i64 (j : Nat) ∧ Hid ((i = 0 ∨ kc t bs (low + i * 64) ≤ k) ∧ (j = n ∨ k < kc t bs (low + (j + 1) * 64))) ∧ Below w.heap.size w wr) (fun a b _ => (intOf b).toNat - (intOf a).toNat)
  case atStart => exact ⟨0, n, by omega, by omega, rfl, rfl, hid ⟨Or.inl rfl, Or.inl rfl⟩, Below.refl _ _⟩
  case round =>
    obtain ⟨i, j, hij, hj, rfl, rfl, hs, hB⟩ := hrel
    have hsz := hB.size
    rcases Nat.lt_or_ge i j with hlt | hge
    · have hlti : (i : Int) < (j : Int) := by omega
      obtain ⟨h, hh⟩ : ∃ h, h = (i + j) / 2 := ⟨_, rfl⟩
      have hm : ((i : Int) + (j : Int)) / 2 = (h : Int) := by omega
      have hih : i ≤ h := by omega
      have hhj : h < j := by omega
      have HF := hid (find1_any t gd gx A c bs Ad cd b7 b10 b6 low k h (low + (h + 1) * 64) wr (hd.below hB) ((hB.cell (p := ⟨b7, 0, none⟩) l7).trans h7) ((hB.cell (p := ⟨b10, 0, none⟩) l10).trans h10) ((hB.cell (p := ⟨b6, 0, none⟩) l6).trans h6) (by omega) (by omega) (by omega) rfl (by omega))
      clear hh
      cases hf : decide (k < kc t bs (low + (h + 1) * 64))
      all_goals
        rw [hf] at HF
        have HH := hid hf
        clear hf
        go_wp2_with fail
        refine HF.out.mono ?_
        rintro e w2 ⟨rfl, hB2⟩
        have hB3 := hB.trans (hB2.mono hsz)
        go_wp2
        go_roundw
      case rel => exact ⟨h + 1, j, by omega, by omega, by go_num, rfl, hid ⟨Or.inr (by have := HH.out; rw [decide_eq_false_iff_not] at this; omega), hs.out.2⟩, hB3⟩
      case measure => simp [intOf]; omega
      case rel => exact ⟨i, h, by omega, by omega, rfl, by go_num, hid ⟨hs.out.1, Or.inr (by have := HH.out; rw [decide_eq_true_eq] at this; exact this)⟩, hB3⟩
      case measure => simp [intOf]; omega
    · obtain rfl : i = j := by omega
      go_wp2
      go_ret
      exact ⟨i, rfl, hj, hs.out.1, hs.out.2, hB⟩

end Go.Proofs.YtlpnbkfcbamnbaaDoor
