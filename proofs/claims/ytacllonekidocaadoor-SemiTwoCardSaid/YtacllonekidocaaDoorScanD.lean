/- Walks: the scanner's steps: a word, digits, an escape. -/
import Derived.Test.YtacllonekidocaaDoorScanC
set_option linter.unusedVariables false
set_option linter.unusedSimpArgs false
set_option maxRecDepth 100000
namespace Go.Proofs.YtacllonekidocaaDoor
open Go.RowKit Go.Shelf L

/-- The digits from k on end at k'. -/
def Dg (l : List Nat) (k k' : Nat) : Prop := k ≤ k' ∧ k' ≤ l.length ∧ (∀ i, k ≤ i → i < k' → L.digit (at_ l i) = true) ∧ L.digit (at_ l k') = false

theorem at_in {s : ByteArray} {k : Nat} (h : at_ (nb s) k ≠ 0) : k < s.size := by
  rcases Nat.lt_or_ge k s.size with h1 | h1
  · exact h1
  · exact absurd (at_out (by rw [nb_length]; exact h1)) h

set_option maxHeartbeats 2000000 in
theorem sdigits_any (g : Nat) (s : ByteArray) (k : Nat) (v : Value) (d m : Nat) (w : World) (hb : ScAt w g s k v d m) (hk : k ≤ s.size) (hs : s.size ≤ 65536) :
    Calls Tryd.prog 87 #[.pointer (some ⟨g, 0, none⟩)] w fun e w' => ∃ k', e = .returned (.bool (decide (k < k'))) ∧ ScAt w' g s k' v d m ∧ Sco g w w' ∧ Dg (nb s) k k' := by
  have c1 := hb.c1
  go_enter Tryd.func87, Tryd.ntmps87
  go_wp2_with fail
  refine (snext_any g s k v d m _ hb).mono ?_
  rintro e w' ⟨rfl, n0, rfl⟩
  have hb0 := hb.drewN n0
  have ho0 := (Sco.refl g w).drewN n0
  go_wp2
  go_loopw [4] (fun c wr => ∃ k', c = .int .u8 (at_ (nb s) k' : Nat) ∧ ScAt wr g s k' v d m ∧ Sco g w wr ∧ k ≤ k' ∧ k' ≤ s.size ∧ (∀ i, k ≤ i → i < k' → L.digit (at_ (nb s) i) = true)) (fun _ wr => s.size - posOf wr g)
  case atStart => exact ⟨k, rfl, hb0, ho0, Nat.le_refl _, hk, fun i h1 h2 => by omega⟩
  case round =>
    obtain ⟨k', rfl, hb', ho, hk1, hk2, hbl⟩ := hrel
    have c0 := hb'.c0
    have c1 := hb'.c1
    have f1 := hb'.fr 1
    have x1 := wrap_oneS k' (by omega)
    have hlt := at_nb_lt s k'
    have HN := hid (@at_in s k')
    have HL := hid hbl
    have hn1 := hb'.at' (k' + 1) ((k' : Int) + 1) (by omega)
    have hn2 := ho.set 1 (.int .i64 ((k' : Int) + 1))
    have HD := hid (show L.digit (at_ (nb s) k') = (decide (48 ≤ at_ (nb s) k') && decide (at_ (nb s) k' ≤ 57)) from rfl)
    have SN := hid (fun (W : World) (hW : ScAt W g s (k' + 1) v d m) => snext_any g s (k' + 1) v d m W hW)
    have hp : ∀ W, ScAt W g s (k' + 1) v d m → posOf W g = k' + 1 := fun W h => h.pos
    have HP := hid hb'.pos
    have hkk : decide ((k : Int) < (k' : Int)) = decide (k < k') := by apply Bool.eq_iff_iff.2; simp only [decide_eq_true_eq]; omega
    have hkk2 : decide ((k' : Int) > (k : Int)) = decide (k < k') := by apply Bool.eq_iff_iff.2; simp only [decide_eq_true_eq]; omega
    clear hbl
    generalize hc : at_ (nb s) k' = c at *
    have HC := hid hc
    clear hc
    rcases Nat.lt_or_ge c 48 with h1 | h1
    · have d1 : decide ((c : Int) ≥ 48) = false := decide_eq_false (by omega)
      have d1N : ¬ (48 ≤ c) := by omega
      have HE := hid (show L.digit c = false by rw [HD.out, decide_eq_false d1N, Bool.false_and])
      go_wp2
      go_ret
      exact ⟨k', ret_bool' (by first | rfl | (apply Bool.eq_iff_iff.2; simp only [decide_eq_true_eq]; omega)), hb', ho, hk1, by rw [nb_length]; exact hk2, HL.out, by rw [HC.out]; exact HE.out⟩
    · have d1 : decide ((c : Int) ≥ 48) = true := decide_eq_true (by omega)
      rcases Nat.lt_or_ge 57 c with h2 | h2
      · have d2 : decide ((c : Int) ≤ 57) = false := decide_eq_false (by omega)
        have d2N : ¬ (c ≤ 57) := by omega
        have HE := hid (show L.digit c = false by rw [HD.out, decide_eq_false d2N, Bool.and_false])
        go_wp2
        go_ret
        exact ⟨k', ret_bool' (by first | rfl | (apply Bool.eq_iff_iff.2; simp only [decide_eq_true_eq]; omega)), hb', ho, hk1, by rw [nb_length]; exact hk2, HL.out, by rw [HC.out]; exact HE.out⟩
      · have d2 : decide ((c : Int) ≤ 57) = true := decide_eq_true (by omega)
        have HE := hid (show L.digit c = true by rw [HD.out, decide_eq_true h1, decide_eq_true h2]; rfl)
        have HK := hid (show k' < s.size from HN.out (by omega))
        go_wp2_with fail
        refine (SN.out _ (by exact hn1)).mono ?_
        rintro e w2 ⟨rfl, n1, rfl⟩
        go_wp2
        go_roundw
        case rel => exact ⟨k' + 1, rfl, hn1.drewN _, hn2.drewN _, by omega, HK.out, fun i h1 h2 => by
          rcases Nat.lt_or_ge i k' with h3 | h3
          · exact HL.out i h1 h3
          · obtain rfl : i = k' := by omega
            rw [HC.out]; exact HE.out⟩
        case measure => rw [hp _ (by exact hn1.drewN _), HP.out]; have := HK.out; omega

/-- A word's bytes at k: all of them, or as many as these. -/
def Tk (l us : List Nat) (k k' : Nat) (ok : Bool) : Prop :=
  (ok = true ∧ k' = k + us.length ∧ ∀ i, i < us.length → at_ l (k + i) = at_ us i) ∨ (ok = false ∧ ∃ j, j < us.length ∧ k' = k + j ∧ (∀ i, i < j → at_ l (k + i) = at_ us i) ∧ at_ l k' ≠ at_ us j)

set_option maxHeartbeats 2000000 in
theorem stake_any (u : ByteArray) (g : Nat) (s : ByteArray) (k : Nat) (v : Value) (d m : Nat) (w : World) (hb : ScAt w g s k v d m) (hk : k ≤ s.size) (hs : s.size ≤ 65536) (hu : ∀ i, i < u.size → at_ (nb u) i ≠ 0) (hu2 : u.size ≤ 65536) :
    Calls Tryd.prog 55 #[.pointer (some ⟨g, 0, none⟩), .string u] w fun e w' => ∃ k' ok, e = .returned (.bool ok) ∧ ScAt w' g s k' v d m ∧ Sco g w w' ∧ k' ≤ s.size ∧ Tk (nb s) (nb u) k k' ok := by
  go_enter Tryd.func55, Tryd.ntmps55
  go_wp2
  go_loopw [8] (fun i wr => ∃ j : Nat, i = .int .i64 (j : Nat) ∧ j ≤ u.size ∧ ScAt wr g s (k + j) v d m ∧ Sco g w wr ∧ k + j ≤ s.size ∧ (∀ i, i < j → at_ (nb s) (k + i) = at_ (nb u) i)) (fun i _ => u.size - (intOf i).toNat)
  case atStart => exact ⟨0, rfl, by omega, hb, Sco.refl _ _, by omega, fun i h => by omega⟩
  case round =>
    obtain ⟨j, rfl, hj, hb', ho, hk2, hbl⟩ := hrel
    rcases Nat.lt_or_ge j u.size with hlt | hge
    · have HU := hid (at_nb u j hlt)
      have HL := hid hbl
      have hi : (j : Int) < (u.size : Int) := by omega
      have xj := wrap_oneS j (by omega)
      have hb0 := hb'
      generalize hkj : k + j = kj at *
      have HKJ := hid hkj
      clear hkj
      have x1 := wrap_oneS kj (by omega)
      have c1 := hb'.c1
      have f1 := hb'.fr 1
      have SN := hid (fun (n : Nat) => snext_any g s kj v d m (wr.drewN n) (hb'.drewN n))
      have hn1 := hb'.at' (kj + 1) ((kj : Int) + 1) (by omega)
      have hn2 := ho.set 1 (.int .i64 ((kj : Int) + 1))
      have hlt2 := UInt8.toNat_lt u[j]
      have HNZ := hid (hu j hlt)
      have HIN := hid (@at_in s kj)
      clear hbl
      by_cases hc : at_ (nb s) kj = (u[j]).toNat
      · have HC := hid hc
        have hcI : ((at_ (nb s) kj : Nat) : Int) = ((u[j]).toNat : Int) := by rw [hc]
        generalize hcc : at_ (nb s) kj = c at *
        have HCC := hid hcc
        clear hcc
        go_wp2
        go_quiet ((go_at_call 51; exact quiet_moreS (SN.out _)))
        go_wp2
        go_roundw
        case rel => exact ⟨j + 1, rfl, by omega, by rw [← Nat.add_assoc, HKJ.out]; exact hn1.drewN _, hn2.drewN _, by
          have := HIN.out (by rw [HC.out, ← HU.out]; exact HNZ.out)
          have := HKJ.out
          omega, fun i h1 => by
          rcases Nat.lt_or_ge i j with h3 | h3
          · exact HL.out i h3
          · obtain rfl : i = j := by omega
            rw [HKJ.out, HCC.out, HC.out, HU.out]⟩
        case measure => simp [intOf]; omega
      · go_wp2
        go_quiet ((go_at_call 51; exact quiet_moreS (SN.out _)))
        go_wp2
        go_ret
        exact ⟨kj, false, rfl, hb'.drewN _, ho.drewN _, hk2, Or.inr ⟨rfl, j, by rw [nb_length]; exact hlt, HKJ.out.symm, HL.out, by rw [HU.out]; exact hc⟩⟩
    · obtain rfl : j = u.size := by omega
      go_wp2
      go_ret
      exact ⟨k + u.size, true, rfl, hb', ho, hk2, Or.inl ⟨rfl, by rw [nb_length], by rw [nb_length]; exact hbl⟩⟩

end Go.Proofs.YtacllonekidocaaDoor
