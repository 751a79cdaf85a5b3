/- Walks: the scanner's steps: an escape, a string. -/
import Derived.Test.YtacllonekidocaaGreatDoorScanP
import Derived.Test.YtacllonekidocaaGreatDoorAutoP
set_option linter.unusedVariables false
set_option linter.unusedSimpArgs false
set_option maxRecDepth 100000
namespace Go.Proofs.YtacllonekidocaaGreatDoor
open Go.RowKit Go.Shelf L

/-- What may stand behind a 5c. -/
def L.escb (c : Nat) : Bool := c == 34 || c == 92 || c == 47 || c == 98 || c == 102 || c == 110 || c == 114 || c == 116 || c == 117
def eix (c : Nat) : Int := Lib.indexByte [34, 92, 47, 98, 102, 110, 114, 116, 117] c.toUInt8
theorem eix_escb (c : Nat) (h : c < 256) : decide (eix c < 0) = !escb c := by
  have : ∀ c : Fin 256, decide (eix c.1 < 0) = !escb c.1 := by decide +kernel
  exact this ⟨c, h⟩
theorem eix_any (c : Nat) (w : World) : Calls Tryz.prog 145 #[.string { data := #[34, 92, 47, 98, 102, 110, 114, 116, 117] }, .int .u8 (c : Nat)] w fun e w' => e = .returned (.int .i64 (eix c)) ∧ w = w' :=
  (Tryz.strings_IndexByte { data := #[34, 92, 47, 98, 102, 110, 114, 116, 117] } (c : Nat) w).mono fun e w' ⟨he, hw⟩ => ⟨by rw [he]; rfl, hw.symm⟩

/-- Behind a 5c. -/
def Esc (l : List Nat) (k : Nat) (ok : Bool) (k' : Nat) : Prop := ∀ q kk, Goes l (toS q 7 kk 0) k ok (toS q 6 kk 0) k'
theorem esc_dead {l : List Nat} {k : Nat} (hk : k ≤ l.length) (h : escb (at_ l k) = false) : Esc l k false k := fun q kk => by
  refine Goes.fail _ (R.refl hk) (dead_of hk (fun _ => ?_) (Bool.and_false _))
  unfold escb at h
  simp only [Bool.or_eq_false_iff, beq_eq_false_iff_ne, ne_eq] at h
  show (if at_ l k = 117 then some _ else if _ then some _ else none) = _
  rw [if_neg (by omega), if_neg (by omega)]
theorem esc_one {l : List Nat} {k : Nat} (h : escb (at_ l k) = true) (h2 : at_ l k ≠ 117) : Esc l k true (k + 1) := fun q kk => by
  unfold escb at h
  simp only [Bool.or_eq_true, beq_iff_eq] at h
  refine Goes.done (R.of (Dr.step (at_ne (by omega)) ?_))
  show (if at_ l k = 117 then some _ else if _ then some _ else none) = _
  rw [if_neg h2, if_pos (by omega)]; rfl
def hst (q : St) (kk : Bool) (j : Nat) : St := if j = 4 then toS q 6 kk 0 else toS q 8 kk (4 - j)
theorem esc_u {l : List Nat} {k : Nat} (h : at_ l k = 117) (q : St) (kk : Bool) : R l (toS q 7 kk 0) k (hst q kk 0) (k + 1) := by
  refine R.of (Dr.step (at_ne (by omega)) ?_)
  show (if at_ l k = 117 then some _ else if _ then some _ else none) = _
  rw [if_pos h]; rfl
theorem esc_hex {l : List Nat} {q : St} {kk : Bool} {k j p : Nat} (hr : R l (toS q 7 kk 0) k (hst q kk j) p) (hj : j < 4) (h : hexd (at_ l p) = true) (hp : p < l.length) : R l (toS q 7 kk 0) k (hst q kk (j + 1)) (p + 1) := by
  refine hr.step hp ?_
  unfold hst
  rw [if_neg (by omega)]
  show (if hexd (at_ l p) then some (if 4 - j = 1 then _ else _) else none) = _
  rw [if_pos h]
  by_cases h3 : j = 3
  · subst h3; rfl
  · rw [if_neg (by omega), if_neg (by omega)]; rfl
theorem esc_nohex {l : List Nat} {q : St} {kk : Bool} {j p : Nat} (hj : j < 4) (h : hexd (at_ l p) = false) (hp : p ≤ l.length) : Dead l (hst q kk j) p := by
  unfold hst
  rw [if_neg (by omega)]
  refine dead_of hp (fun _ => ?_) (Bool.and_false _)
  show (if hexd (at_ l p) then some (if 4 - j = 1 then _ else _) else none) = _
  rw [if_neg (by rw [h]; simp)]

set_option maxHeartbeats 2000000 in
theorem sesc_any (g : Nat) (s : ByteArray) (k : Nat) (v : Value) (d m : Nat) (w : World) (hb : ScAt w g s k v d m) (hk : k ≤ s.size) (hs : s.size ≤ 65536) :
    Calls Tryz.prog 147 #[.pointer (some ⟨g, 0, none⟩)] w fun e w' => ∃ k' ok, e = .returned (.bool ok) ∧ ScAt w' g s k' v d m ∧ Sco g w w' ∧ Esc (nb s) k ok k' := by
  have hkl : k ≤ (nb s).length := by rw [nb_length]; exact hk
  have SN := snext_any g s k v d m w hb
  have hlt := at_nb_lt s k
  have HE := hid (eix_escb (at_ (nb s) k) hlt)
  have ED := hid (@esc_dead (nb s) k hkl)
  have EO := hid (@esc_one (nb s) k)
  have EU := hid (@esc_u (nb s) k)
  have HI := hid (@at_in s k)
  have EH := hid (fun q kk j p => @esc_hex (nb s) q kk k j p)
  have EN := hid (fun q kk j p => @esc_nohex (nb s) q kk j p)
  have c1 := hb.c1
  have f1 := hb.fr 1
  have x1 := wrap_oneS k (by omega)
  have ho := (Sco.refl g w)
  have hb1 := hb.at' (k + 1) ((k : Int) + 1) (by omega)
  have ho1 := ho.set 1 (.int .i64 ((k : Int) + 1))
  generalize hc : at_ (nb s) k = c at *
  by_cases h0 : c = 0
  · have HC := hid hc
    have H0 := hid h0
    have hz : ((c : Int) == 0) = true := by rw [beq_iff_eq]; omega
    clear hc h0
    go_enter Tryz.func147, Tryz.ntmps147
    go_wp2_with fail
    refine SN.mono ?_
    rintro e w' ⟨rfl, n0, rfl⟩
    go_wp2
    go_ret
    exact ⟨k, false, rfl, hb.drewN _, ho.drewN _, ED.out (by rw [H0.out]; decide)⟩
  · have hz : ((c : Int) == 0) = false := by rw [beq_eq_false_iff_ne]; omega
    have hz2 : ¬ (c = 0) := h0
    cases hec : escb c
    · have hd : decide (eix c < 0) = true := by rw [HE.out, hec]; rfl
      have HEC := hid hec
      clear hec hc
      go_enter Tryz.func147, Tryz.ntmps147
      go_wp2_with fail
      refine SN.mono ?_
      rintro e w' ⟨rfl, n0, rfl⟩
      go_wp2_with (go_at_call 145; refine (eix_any _ _).mono ?_; rintro e w' ⟨rfl, rfl⟩)
      go_ret
      exact ⟨k, false, rfl, hb.drewN _, ho.drewN _, ED.out HEC.out⟩
    · have hd : decide (eix c < 0) = false := by rw [HE.out, hec]; rfl
      have HEC := hid hec
      clear hec
      by_cases hu : c = 117
      · have hui : ((c : Int) != 117) = false := by rw [bne_eq_false_iff_eq]; omega
        have HU := hid hu
        have HKS := hid (HI.out (by omega))
        clear hu hc
        go_enter Tryz.func147, Tryz.ntmps147
        go_wp2_with fail
        refine SN.mono ?_
        rintro e w' ⟨rfl, n0, rfl⟩
        go_wp2_with (go_at_call 145; refine (eix_any _ _).mono ?_; rintro e w' ⟨rfl, rfl⟩)
        go_loopw [22] (fun i wr => ∃ j : Nat, i = .int .i64 (j : Nat) ∧ j ≤ 4 ∧ ScAt wr g s (k + 1 + j) v d m ∧ Sco g w wr ∧ k + 1 + j ≤ s.size ∧ ∀ q kk, R (nb s) (toS q 7 kk 0) k (hst q kk j) (k + 1 + j)) (fun i _ => 4 - (intOf i).toNat)
        case atStart => exact ⟨0, rfl, by omega, hb1.drewN _, ho1.drewN _, HKS.out, fun q kk => EU.out HU.out q kk⟩
        case round =>
          obtain ⟨j, rfl, hj, hb', ho', hk', hr⟩ := hrel
          have HR := hid hr
          clear hr
          rcases Nat.lt_or_ge j 4 with hlt4 | hge
          · have hji : (j : Int) < 4 := by omega
            have hj1 := wrap_oneS j (by omega)
            generalize hp : k + 1 + j = p at *
            have HP := hid hp
            clear hp
            have xp := wrap_oneS p (by omega)
            have SN2 := snext_any g s p v d m wr hb'
            have SH := hid (fun W => shex_any (at_ (nb s) p) W (at_nb_lt s p))
            have HI2 := hid (@at_in s p)
            have c1' := hb'.c1
            have f1' := hb'.fr 1
            have hn1 := hb'.at' (p + 1) ((p : Int) + 1) (by omega)
            have hn2 := ho'.set 1 (.int .i64 ((p : Int) + 1))
            have hpl : p ≤ (nb s).length := by rw [nb_length]; exact hk'
            generalize hcp : at_ (nb s) p = cp at *
            cases hh : hexd cp
            · have HH := hid hh
              rw [hh] at SH
              have HCP := hid hcp
              clear hh hcp
              go_wp2_with fail
              refine SN2.mono ?_
              rintro e w' ⟨rfl, n1, rfl⟩
              go_wp2_with (go_at_call 168; refine (SH.out _).mono ?_; rintro e w' ⟨rfl, rfl⟩)
              go_ret
              exact ⟨p, false, rfl, hb'.drewN _, ho'.drewN _, fun q kk => Goes.fail _ (HR.out q kk) (EN.out q kk j p hlt4 (by rw [HCP.out]; exact HH.out) hpl)⟩
            · have HH := hid hh
              rw [hh] at SH
              have HCP := hid hcp
              clear hh hcp
              go_wp2_with fail
              refine SN2.mono ?_
              rintro e w' ⟨rfl, n1, rfl⟩
              go_wp2_with (go_at_call 168; refine (SH.out _).mono ?_; rintro e w' ⟨rfl, rfl⟩)
              have hps : p < s.size := HI2.out (by intro e0; have := HH.out; rw [e0] at this; exact absurd this (by decide))
              go_roundw
              case rel => exact ⟨j + 1, rfl, by omega, by rw [← Nat.add_assoc, HP.out]; exact hn1.drewN _, hn2.drewN _, by have := HP.out; omega, fun q kk => by
                rw [← Nat.add_assoc, HP.out]
                exact EH.out q kk j p (HR.out q kk) hlt4 (by rw [HCP.out]; exact HH.out) (by rw [nb_length]; exact hps)⟩
              case measure => simp [intOf]; omega
          · obtain rfl : j = 4 := by omega
            go_wp2
            go_ret
            exact ⟨k + 1 + 4, true, rfl, hb', ho', fun q kk => Goes.done (HR.out q kk)⟩
      · have hui : ((c : Int) != 117) = true := by rw [bne_iff_ne]; omega
        have HU := hid hu
        clear hu hc
        go_enter Tryz.func147, Tryz.ntmps147
        go_wp2_with fail
        refine SN.mono ?_
        rintro e w' ⟨rfl, n0, rfl⟩
        go_wp2_with (go_at_call 145; refine (eix_any _ _).mono ?_; rintro e w' ⟨rfl, rfl⟩)
        go_ret
        exact ⟨k + 1, true, rfl, hb1.drewN _, ho1.drewN _, EO.out HEC.out HU.out⟩

end Go.Proofs.YtacllonekidocaaGreatDoor
