/- Walks: the laws of chapter 12 that ask no reference: cut texts, blanks. -/
import Derived.Test.YtegoephanphnkaaScanK
import Derived.Test.YtegoephanphnkaaLawScan
set_option linter.unusedVariables false
set_option linter.unusedSimpArgs false
set_option maxRecDepth 100000
namespace Go.Proofs.Ytegoephanphnkaa
open Go.RowKit Go.Shelf L

theorem L.nb_take (s : ByteArray) (k : Nat) : nb (s.extract 0 k) = (nb s).take k := by
  unfold nb
  rw [ByteArray.data_extract, Array.toList_extract]
  simp [List.extract, List.map_take]
theorem L.nb_append (s t : ByteArray) : nb (s ++ t) = nb s ++ nb t := by
  unfold nb
  rw [ByteArray.data_append, Array.toList_append, List.map_append]

/-- A text of verdict 1. -/
def L.okv (l : List Nat) : Prop := (goA L.start l 0).2 = l.length ∧ fin (goA L.start l 0).1 = true
instance (l : List Nat) : Decidable (okv l) := by unfold okv; infer_instance
theorem L.most_le (l : List Nat) : (goA L.start l 0).1.most ≤ l.length := by
  have h1 := (small_go l L.start 0 small_start).2.1
  have h2 := (goA_ge l L.start 0).2
  omega
theorem L.verd_ok {l : List Nat} {deep : Nat} (hl : l.length ≤ 65536) (h : okv l) : verd l deep = if deep < (goA L.start l 0).1.most then (2, (goA L.start l 0).1.most) else (1, (goA L.start l 0).1.most) := by
  unfold okv at h; unfold verd; rw [if_neg (by omega), if_pos h]
theorem L.verd_ok4 {l : List Nat} (hl : l.length ≤ 4096) (h : okv l) : verd l 4096 = (1, (goA L.start l 0).1.most) := by
  rw [verd_ok (by omega) h, if_neg (by have := most_le l; omega)]
theorem L.verd_no {l : List Nat} {deep : Nat} (hl : l.length ≤ 65536) (h : ¬ okv l) : verd l deep = (3, (goA L.start l 0).2) := by
  unfold okv at h; unfold verd; rw [if_neg (by omega), if_neg h]

theorem L.alive_cut {l : List Nat} (hl : l.length ≤ 4096) {j : Nat} (hj : j ≤ (goA L.start l 0).2) : (verd (l.take j) 4096).1 = 1 ∨ verd (l.take j) 4096 = (3, j) := by
  have h1 := goA_take l L.start 0 j (by omega)
  have h2 := (goA_ge l L.start 0).2
  have hlen : (l.take j).length = j := by rw [List.length_take]; omega
  by_cases h : okv (l.take j)
  · left; rw [verd_ok4 (by omega) h]
  · right; rw [verd_no (by omega) h, h1, Nat.zero_add]
theorem L.alive_one {l : List Nat} (hl : l.length ≤ 4096) (h : ¬ okv l) : verd (l.take (min ((goA L.start l 0).2 + 1) l.length)) 4096 = (3, (goA L.start l 0).2) := by
  have h2 := (goA_ge l L.start 0).2
  rcases Nat.lt_or_ge (goA L.start l 0).2 l.length with h1 | h1
  · rw [show min ((goA L.start l 0).2 + 1) l.length = (goA L.start l 0).2 + 1 from by omega]
    have h3 := goA_take_more l L.start 0 ((goA L.start l 0).2 + 1) (by omega)
    have hn : ¬ okv (l.take ((goA L.start l 0).2 + 1)) := by
      rintro ⟨e, _⟩
      rw [h3, List.length_take] at e; omega
    rw [verd_no (by rw [List.length_take]; omega) hn, h3]
  · rw [show min ((goA L.start l 0).2 + 1) l.length = l.length from by omega, List.take_length, verd_no (by omega) h]

theorem awake_verd : verd (nb { data := #[91, 91, 93, 93] }) 1 = (2, 2) := by decide +kernel

set_option maxHeartbeats 1000000 in
theorem awake12 (w : World) : Calls Try.prog 14 #[] w fun e w' => e = .returned (.bool true) ∧ Below w.heap.size w w' := by
  have HV := valid_any { data := #[91, 91, 93, 93] } 1 w (by omega) (by omega)
  rw [awake_verd] at HV
  go_enter Try.func14, Try.ntmps14
  go_wp2_with fail
  refine HV.mono ?_
  rintro e w1 ⟨rfl, hB1⟩
  go_wp2_with fail
  go_ret
  exact ⟨rfl, hB1⟩

/-- A verdict, of a text of so many bytes. -/
theorem valid_at (s : ByteArray) (deep : Nat) (d : Int) (hd : d = (deep : Nat)) (l : List Nat) (hl : nb s = l) (v p : Nat) (hv : verd l deep = (v, p)) (h1 : 1 ≤ deep) (h2 : deep ≤ 4096) (w : World) :
    Calls Try.prog 15 #[.string s, .int .i64 d] w fun e w' => e = .returned (.tuple #[.int .i64 (v : Nat), .int .i64 (p : Nat), .int .i64 0]) ∧ Below w.heap.size w w' := by
  subst hd
  have := valid_any s deep w h1 h2
  rw [hl, hv] at this
  exact this

set_option maxHeartbeats 2000000 in
theorem alive_any (s : ByteArray) (n : Nat) (w : World) (hs : s.size ≤ 9223372036854775807) (hn : n < 65536) :
    Calls Try.prog 4 #[.string s, .int .u16 (n : Nat)] w fun e w' => e = .returned (.bool true) ∧ Below w.heap.size w w' := by
  have hll := nb_length s
  rcases Nat.lt_or_ge 300 s.size with h3 | h3
  · have d1 : decide ((s.size : Int) > 300) = true := decide_eq_true (by omega)
    go_enter Try.func4, Try.ntmps4
    go_wp2_with fail
    refine (awake12 _).mono ?_
    rintro e w1 ⟨rfl, hB1⟩
    go_wp2_with fail
    refine (awake12 _).mono ?_
    rintro e w2 ⟨rfl, hB2⟩
    go_wp2_with fail
    go_ret
    exact ⟨rfl, hB1.trans (hB2.mono hB1.size)⟩
  · have d1 : decide ((s.size : Int) > 300) = false := decide_eq_false (by omega)
    have d1N : ¬ (300 < s.size) := by omega
    have hl4 : (nb s).length ≤ 4096 := by omega
    by_cases hok : okv (nb s)
    · obtain ⟨y, hv⟩ : ∃ y, verd (nb s) 4096 = (1, y) := ⟨_, verd_ok4 hl4 hok⟩
      obtain ⟨k, hk⟩ : ∃ k, k = n % (s.size + 1) := ⟨_, rfl⟩
      have hkl : k ≤ s.size := by have := Nat.mod_lt n (show 0 < s.size + 1 by omega); omega
      have hcut := alive_cut hl4 (j := k) (by rw [hok.1, hll]; exact hkl)
      have hkI : (n : Int) % ((s.size : Int) + 1) = (k : Int) := by rw [hk]; simp
      have hkT : (n : Int).tmod ((s.size : Int) + 1) = (k : Int) := by rw [Int.tmod_eq_emod_of_nonneg (by omega)]; exact hkI
      have hkW : IntKind.i64.wrap (k : Int) = (k : Int) := by rw [IntKind.wrap_i64]; omega
      have hnW : IntKind.i64.wrap (n : Int) = (n : Int) := by rw [IntKind.wrap_i64]; omega
      have hsW := wrap_one s.size (by omega)
      have hne : ¬ ((s.size : Int) + 1 = 0) := by omega
      have hk0 : (0 : Int) ≤ (k : Int) := by omega
      have hkI2 : (k : Int) ≤ (s.size : Int) := by omega
      have HV := hid (fun w => valid_at s 4096 4096 rfl _ rfl 1 y hv (by omega) (by omega) w)
      have HT := nb_take s k
      clear hk
      rcases hcut with hc | hc
      · obtain ⟨z, hz⟩ : ∃ z, verd ((nb s).take k) 4096 = (1, z) := ⟨_, Prod.ext hc rfl⟩
        have HC := hid (fun w => valid_at (s.extract 0 k) 4096 4096 rfl _ HT 1 z hz (by omega) (by omega) w)
        clear hv hok hc hz hll HT
        go_enter Try.func4, Try.ntmps4
        go_wp2_with fail
        refine (awake12 _).mono ?_
        rintro e w1 ⟨rfl, hB1⟩
        go_wp2_with fail
        refine (HV.out _).mono ?_
        rintro e w2 ⟨rfl, hB2⟩
        go_wp2_with fail
        refine (HC.out _).mono ?_
        rintro e w3 ⟨rfl, hB3⟩
        go_wp2_with fail
        go_ret
        exact ⟨rfl, hB1.trans ((hB2.mono hB1.size).trans (hB3.mono (Nat.le_trans hB1.size hB2.size)))⟩
      · have HC := hid (fun w => valid_at (s.extract 0 k) 4096 4096 rfl _ HT 3 k hc (by omega) (by omega) w)
        clear hv hok hc hll HT
        go_enter Try.func4, Try.ntmps4
        go_wp2_with fail
        refine (awake12 _).mono ?_
        rintro e w1 ⟨rfl, hB1⟩
        go_wp2_with fail
        refine (HV.out _).mono ?_
        rintro e w2 ⟨rfl, hB2⟩
        go_wp2_with fail
        refine (HC.out _).mono ?_
        rintro e w3 ⟨rfl, hB3⟩
        go_wp2_with fail
        go_ret
        exact ⟨rfl, hB1.trans ((hB2.mono hB1.size).trans (hB3.mono (Nat.le_trans hB1.size hB2.size)))⟩
    · have hv := verd_no (deep := 4096) (by omega) hok
      have hp := (goA_ge (nb s) L.start 0).2
      have hcut := alive_cut hl4 (j := (goA L.start (nb s) 0).2) (Nat.le_refl _)
      have hone := alive_one hl4 hok
      rw [hll] at hone hp
      generalize (goA L.start (nb s) 0).2 = p at hv hp hcut hone
      obtain ⟨u, hu⟩ : ∃ u, u = min (p + 1) s.size := ⟨_, rfl⟩
      have hmin : min ((p : Int) + 1) (s.size : Int) = (u : Int) := by omega
      have hmin2 : min (s.size : Int) ((p : Int) + 1) = (u : Int) := by omega
      rw [← hu] at hone
      have hu2 : (u : Int) ≤ (s.size : Int) := by omega
      have hu0 : (0 : Int) ≤ (u : Int) := by omega
      have hp0 : (0 : Int) ≤ (p : Int) := by omega
      have hp2 : (p : Int) ≤ (s.size : Int) := by omega
      have e1 : decide ((p : Int) < 0) = false := decide_eq_false (by omega)
      have e2 : decide ((p : Int) > (s.size : Int)) = false := decide_eq_false (by omega)
      have e2N : ¬ (s.size < p) := by omega
      have hpW := wrap_one p (by omega)
      have HV := hid (fun w => valid_at s 4096 4096 rfl _ rfl 3 p hv (by omega) (by omega) w)
      have HT := nb_take s p
      have HU := hid (fun w => valid_at (s.extract 0 u) 4096 4096 rfl _ (nb_take s u) 3 p hone (by omega) (by omega) w)
      clear hu
      rcases hcut with hc | hc
      · obtain ⟨z, hz⟩ : ∃ z, verd ((nb s).take p) 4096 = (1, z) := ⟨_, Prod.ext hc rfl⟩
        have HC := hid (fun w => valid_at (s.extract 0 p) 4096 4096 rfl _ HT 1 z hz (by omega) (by omega) w)
        clear hv hok hc hz hll HT hone
        go_enter Try.func4, Try.ntmps4
        go_wp2_with fail
        refine (awake12 _).mono ?_
        rintro e w1 ⟨rfl, hB1⟩
        go_wp2_with fail
        refine (HV.out _).mono ?_
        rintro e w2 ⟨rfl, hB2⟩
        go_wp2_with fail
        refine (HC.out _).mono ?_
        rintro e w3 ⟨rfl, hB3⟩
        go_wp2_with fail
        refine (HU.out _).mono ?_
        rintro e w4 ⟨rfl, hB4⟩
        go_wp2_with fail
        go_ret
        exact ⟨rfl, hB1.trans ((hB2.mono hB1.size).trans ((hB3.mono (Nat.le_trans hB1.size hB2.size)).trans (hB4.mono (Nat.le_trans hB1.size (Nat.le_trans hB2.size hB3.size)))))⟩
      · have HC := hid (fun w => valid_at (s.extract 0 p) 4096 4096 rfl _ HT 3 p hc (by omega) (by omega) w)
        clear hv hok hc hll HT hone
        go_enter Try.func4, Try.ntmps4
        go_wp2_with fail
        refine (awake12 _).mono ?_
        rintro e w1 ⟨rfl, hB1⟩
        go_wp2_with fail
        refine (HV.out _).mono ?_
        rintro e w2 ⟨rfl, hB2⟩
        go_wp2_with fail
        refine (HC.out _).mono ?_
        rintro e w3 ⟨rfl, hB3⟩
        go_wp2_with fail
        refine (HU.out _).mono ?_
        rintro e w4 ⟨rfl, hB4⟩
        go_wp2_with fail
        go_ret
        exact ⟨rfl, hB1.trans ((hB2.mono hB1.size).trans ((hB3.mono (Nat.le_trans hB1.size hB2.size)).trans (hB4.mono (Nat.le_trans hB1.size (Nat.le_trans hB2.size hB3.size)))))⟩

end Go.Proofs.Ytegoephanphnkaa
