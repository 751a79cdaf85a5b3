/- Walks: the scanner's steps: a value without brackets. -/
import Derived.Test.YtacllonekidocaaDoorScanG
import Derived.Test.YtacllonekidocaaDoorScanH
set_option linter.unusedVariables false
set_option linter.unusedSimpArgs false
set_option maxRecDepth 100000
namespace Go.Proofs.YtacllonekidocaaDoor
open Go.RowKit Go.Shelf L

theorem lit_num {l rest : List Nat} {k k' x : Nat} {ok : Bool} (h : Tk l (x :: rest) k k' ok) (hx : at_ l k = x) (hx0 : x ≠ 0) (hne : rest ≠ []) (hnz : ∀ i, i < rest.length → rest[i]?.getD 0 ≠ 0) (hk' : k' ≤ l.length) (hd : ∀ q, delta (to q 0) x = some (toL q rest)) : Num l k ok k' := fun q => by
  have hkl : k < l.length := at_ne (by omega)
  have hat : ∀ i, at_ (x :: rest) (i + 1) = rest[i]?.getD 0 := fun i => rfl
  rcases h with ⟨rfl, e2, h⟩ | ⟨rfl, j, hj, e2, h, hn⟩
  · have h1 := lit_on (r := []) (q := to q 0) k x rest hx hkl hne (hd q) rest.length (Nat.le_refl _) (fun i hi => by
      have h2 := h (i + 1) (by rw [List.length_cons]; omega)
      rw [hat, show k + (i + 1) = k + 1 + i from by omega] at h2
      exact ⟨at_ne (by rw [h2]; exact hnz i hi), h2⟩)
    rw [if_pos rfl] at h1
    rw [e2, List.length_cons, show k + (rest.length + 1) = k + 1 + rest.length from by omega]
    exact Goes.done h1
  · rw [List.length_cons] at hj
    obtain ⟨j, rfl⟩ : ∃ j', j = j' + 1 := ⟨j - 1, by
      rcases Nat.eq_zero_or_pos j with h0 | h0
      · subst h0; rw [e2] at hn; exact absurd hx hn
      · omega⟩
    have h1 := lit_on (r := []) (q := to q 0) k x rest hx hkl hne (hd q) j (by omega) (fun i hi => by
      have h2 := h (i + 1) (by omega)
      rw [hat, show k + (i + 1) = k + 1 + i from by omega] at h2
      exact ⟨at_ne (by rw [h2]; exact hnz i (by omega)), h2⟩)
    rw [if_neg (by omega)] at h1
    rw [hat] at hn
    rw [show k + (j + 1) = k + 1 + j from by omega] at e2
    rw [← e2] at h1
    exact Goes.fail _ h1 (lit_dead k' rest (by omega) hk' hn)

theorem str_num {l : List Nat} {k k' : Nat} {ok : Bool} (hx : at_ l k = 34) (h : Strg l (k + 1) ok k') : Num l k ok k' := fun q => by
  have h1 : R l (to q 0) k (toS q 6 false 0) (k + 1) := R.of (Dr.step (at_ne (by omega)) (by rw [hx]; rfl))
  exact Goes.pre h1 (h q false)

theorem null_nz : ∀ i, i < ({ data := #[110, 117, 108, 108] } : ByteArray).size → at_ (nb { data := #[110, 117, 108, 108] }) i ≠ 0 := by
  have : ∀ i : Fin 4, at_ (nb { data := #[110, 117, 108, 108] }) i.1 ≠ 0 := by decide
  exact fun i hi => this ⟨i, hi⟩
theorem true_nz : ∀ i, i < ({ data := #[116, 114, 117, 101] } : ByteArray).size → at_ (nb { data := #[116, 114, 117, 101] }) i ≠ 0 := by
  have : ∀ i : Fin 4, at_ (nb { data := #[116, 114, 117, 101] }) i.1 ≠ 0 := by decide
  exact fun i hi => this ⟨i, hi⟩
theorem false_nz : ∀ i, i < ({ data := #[102, 97, 108, 115, 101] } : ByteArray).size → at_ (nb { data := #[102, 97, 108, 115, 101] }) i ≠ 0 := by
  have : ∀ i : Fin 5, at_ (nb { data := #[102, 97, 108, 115, 101] }) i.1 ≠ 0 := by decide
  exact fun i hi => this ⟨i, hi⟩
theorem rest_nz (rest : List Nat) (h : rest.all (fun x => x != 0) = true) : ∀ i, i < rest.length → rest[i]?.getD 0 ≠ 0 := fun i hi => by
  rw [List.getElem?_eq_getElem hi, Option.getD_some]
  have := List.all_eq_true.1 h _ (List.getElem_mem hi)
  simpa using this
theorem null_num {l : List Nat} {k k' : Nat} {ok : Bool} (h : Tk l (nb { data := #[110, 117, 108, 108] }) k k' ok) (hx : at_ l k = 110) (hk' : k' ≤ l.length) : Num l k ok k' :=
  lit_num (x := 110) (rest := [117, 108, 108]) h hx (by decide) (by simp) (rest_nz _ (by decide)) hk' (fun q => rfl)
theorem true_num {l : List Nat} {k k' : Nat} {ok : Bool} (h : Tk l (nb { data := #[116, 114, 117, 101] }) k k' ok) (hx : at_ l k = 116) (hk' : k' ≤ l.length) : Num l k ok k' :=
  lit_num (x := 116) (rest := [114, 117, 101]) h hx (by decide) (by simp) (rest_nz _ (by decide)) hk' (fun q => rfl)
theorem false_num {l : List Nat} {k k' : Nat} {ok : Bool} (h : Tk l (nb { data := #[102, 97, 108, 115, 101] }) k k' ok) (hx : at_ l k = 102) (hk' : k' ≤ l.length) : Num l k ok k' :=
  lit_num (x := 102) (rest := [97, 108, 115, 101]) h hx (by decide) (by simp) (rest_nz _ (by decide)) hk' (fun q => rfl)

set_option maxHeartbeats 2000000 in
theorem sleaf_any (g : Nat) (s : ByteArray) (k : Nat) (v : Value) (d m : Nat) (w : World) (hb : ScAt w g s k v d m) (hk : k ≤ s.size) (hs : s.size ≤ 65536) (h1 : L.blank (at_ (nb s) k) = false) (h2 : at_ (nb s) k ≠ 91) (h3 : at_ (nb s) k ≠ 123) :
    Calls Tryd.prog 53 #[.pointer (some ⟨g, 0, none⟩)] w fun e w' => ∃ k' ok, e = .returned (.bool ok) ∧ ScAt w' g s k' v d m ∧ Sco g w w' ∧ Num (nb s) k ok k' := by
  have hll := nb_length s
  have SN := hid (snext2 g s k v d m w hb)
  have SS := hid (fun W hW => sstr_any g s k v d m W hW hk hs)
  have TN := hid (fun W hW => stake_any { data := #[110, 117, 108, 108] } g s k v d m W hW hk hs null_nz (by decide))
  have TT := hid (fun W hW => stake_any { data := #[116, 114, 117, 101] } g s k v d m W hW hk hs true_nz (by decide))
  have TF := hid (fun W hW => stake_any { data := #[102, 97, 108, 115, 101] } g s k v d m W hW hk hs false_nz (by decide))
  have SM := hid (fun W hW hn => snumber_any g s k v d m W hW hk hs hn)
  have H := hid (And.intro h1 (And.intro h2 h3))
  clear h1 h2 h3
  generalize hc : at_ (nb s) k = c at *
  have HC := hid hc
  clear hc
  go_enter Tryd.func53, Tryd.ntmps53
  go_wp2_with fail
  refine SN.out.mono ?_
  rintro e w1 ⟨rfl, hb1, ho1⟩
  by_cases k1 : c = 34
  · have kI : (c : Int) = 34 := by omega
    have HK := hid k1
    go_wp2_with fail
    refine (SS.out _ hb1).mono ?_
    rintro e w2 ⟨k', ok, rfl, hb2, ho2, hq⟩
    go_wp2_with fail
    go_ret
    rcases hq with ⟨hq, _⟩ | ⟨hq, hst⟩
    · exact absurd HK.out hq
    · exact ⟨k', ok, rfl, hb2, ho1.trans ho2, str_num (HC.out.trans hq) hst⟩
  · have kN : ((c : Int) == 34) = false := by rw [beq_eq_false_iff_ne]; omega
    by_cases k2 : c = 110
    · have kI : (c : Int) = 110 := by omega
      have HK := hid k2
      go_wp2_with fail
      refine (TN.out _ hb1).mono ?_
      rintro e w2 ⟨k', ok, rfl, hb2, ho2, hk', htk⟩
      go_wp2_with fail
      go_ret
      exact ⟨k', ok, rfl, hb2, ho1.trans ho2, null_num htk (HC.out.trans HK.out) (by rw [hll]; exact hk')⟩
    · have kN2 : ((c : Int) == 110) = false := by rw [beq_eq_false_iff_ne]; omega
      by_cases k3 : c = 116
      · have kI : (c : Int) = 116 := by omega
        have HK := hid k3
        go_wp2_with fail
        refine (TT.out _ hb1).mono ?_
        rintro e w2 ⟨k', ok, rfl, hb2, ho2, hk', htk⟩
        go_wp2_with fail
        go_ret
        exact ⟨k', ok, rfl, hb2, ho1.trans ho2, true_num htk (HC.out.trans HK.out) (by rw [hll]; exact hk')⟩
      · have kN3 : ((c : Int) == 116) = false := by rw [beq_eq_false_iff_ne]; omega
        by_cases k4 : c = 102
        · have kI : (c : Int) = 102 := by omega
          have HK := hid k4
          go_wp2_with fail
          refine (TF.out _ hb1).mono ?_
          rintro e w2 ⟨k', ok, rfl, hb2, ho2, hk', htk⟩
          go_wp2_with fail
          go_ret
          exact ⟨k', ok, rfl, hb2, ho1.trans ho2, false_num htk (HC.out.trans HK.out) (by rw [hll]; exact hk')⟩
        · have kN4 : ((c : Int) == 102) = false := by rw [beq_eq_false_iff_ne]; omega
          have HNU := hid (show numb c from ⟨H.out.1, H.out.2.1, H.out.2.2, k1, k2, k3, k4⟩)
          go_wp2_with fail
          refine (SM.out _ hb1 HNU.out).mono ?_
          rintro e w2 ⟨k', ok, rfl, hb2, ho2, hnum⟩
          go_wp2_with fail
          go_ret
          exact ⟨k', ok, rfl, hb2, ho1.trans ho2, hnum⟩

end Go.Proofs.YtacllonekidocaaDoor
