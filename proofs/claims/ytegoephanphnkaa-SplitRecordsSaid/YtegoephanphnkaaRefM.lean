/- Walks: reference 12: a text, the verdict; the law that asks it. -/
import Derived.Test.YtegoephanphnkaaRefL
import Derived.Test.YtegoephanphnkaaLScanA
set_option linter.unusedVariables false
set_option linter.unusedSimpArgs false
set_option maxRecDepth 100000
namespace Go.Proofs.Ytegoephanphnkaa
open Go.RowKit Go.Shelf L

/-- What is told of a text. -/
def TxR (l : List Nat) (ok : Bool) (k d : Nat) : Prop := (ok = true ∧ k = l.length ∧ R l L.start 0 (Q 5 [] d) k) ∨ (ok = false ∧ ∃ q, R l L.start 0 q k ∧ Dead l q k)
theorem txr_bad {l : List Nat} {k d : Nat} (h : VAL l 0 false k d) : TxR l false k d := by
  rcases h [] 0 (Nat.le_refl _) with ⟨e, _⟩ | ⟨_, q, r, dd⟩
  · cases e
  · exact Or.inr ⟨rfl, q, r, dd⟩
theorem txr_at {l : List Nat} {k k2 d : Nat} (h : VAL l 0 true k d) (hb : Blk l k k2) : R l L.start 0 (Q 5 [] d) k2 := by
  rcases h [] 0 (Nat.le_refl _) with ⟨_, r⟩ | ⟨e, _⟩
  · have e : max 0 (([] : List Bool).length + d) = d := by simp
    rw [e] at r
    exact r.trans (blanks_R (M := 5) (by omega) [] d hb.1 hb.2.1 hb.2.2.1)
  · cases e
theorem txr_ok {l : List Nat} {k k2 d : Nat} (h : VAL l 0 true k d) (hb : Blk l k k2) (he : k2 = l.length) : TxR l true k2 d := Or.inl ⟨rfl, he, txr_at h hb⟩
theorem txr_no {l : List Nat} {k k2 d : Nat} (h : VAL l 0 true k d) (hb : Blk l k k2) (he : k2 ≠ l.length) : TxR l false k2 d := Or.inr ⟨rfl, _, txr_at h hb, beh_dead0 (by have := hb.2.1; omega) hb.nb⟩

set_option maxHeartbeats 2000000 in
theorem rtext_any (s : ByteArray) (w : World) (hs : s.size ≤ 65536) :
    Calls Try.prog 24 #[.string s] w fun e w' => ∃ (k' : Nat) (ok : Bool) (d : Nat), e = .returned (RR k' ok d) ∧ Below w.heap.size w w' ∧ k' ≤ s.size ∧ d ≤ s.size ∧ TxR (nb s) ok k' d := by
  have HL := hid (nb_length s)
  have hB0 := (Below.refl w.heap.size w).alloc (Nat.le_refl _) (.cells #[.int .i64 0, .bool false, .int .i64 0] 56)
  have hb0 : BlkIs (w.alloc (.cells #[.int .i64 0, .bool false, .int .i64 0] 56)) w.heap.size 56 (RC 0 false 0) := BlkIs.new w _ _
  have HV := hid (show ∀ W, Calls Try.prog 35 #[.string s, .int .i64 0] W (VPost s 0 (fun ok k' d => VAL (nb s) 0 ok k' d) W) from value_all s hs s.size 0 (Nat.zero_le _) (by omega))
  go_enter Try.func24, Try.ntmps24
  go_wp2_with fail
  generalize hW0 : w.alloc (.cells #[.int .i64 0, .bool false, .int .i64 0] 56) = W0 at *
  clear hW0
  obtain ⟨r, hr⟩ : ∃ r, r = w.heap.size := ⟨_, rfl⟩
  rw [← hr] at hb0
  rw [← hr]
  have HR := hid hr
  clear hr
  (with_reducible refine (HV.out _).mono ?_)
  rintro e w2 ⟨k2, ok2, d2, rfl, hB2, hk2, hkd, hv⟩
  unfold RR RC
  have HVV := hid hv
  clear hv
  have hb2 : BlkIs w2 r 56 (RC 0 false 0) := BlkIs.below hb0 hB2
  have hBB2 := hB0.trans (hB2.mono hB0.size)
  clear hb0 hB0 hB2
  have hr2 := hb2.lt
  obtain ⟨c0, c1, c2, f0, f1, f2⟩ := blk_cells hb2
  cases ok2
  · go_wp2_with fail
    refine ret_cell rfl rfl rfl ((blk_put hb2 _ _ _).alloc _) ?_
    exact ⟨k2, false, d2, rfl, (below_put hBB2 (by rw [HR.out]; exact Nat.le_refl _) _ _ _).alloc (by simp; have := HR.out; omega) _, hk2, by omega, txr_bad HVV.out⟩
  · go_wp2_with fail
    (with_reducible refine (rblanks_any s k2 _ hk2 hs).mono ?_)
    rintro e w3 ⟨k3, rfl, rfl, hbk⟩
    have hk4 : k3 ≤ s.size := by have := hbk.2.1; rw [HL.out] at this; exact this
    have HB := hid hbk
    clear hbk
    by_cases he : k3 = s.size
    · have heI : ((k3 : Int) == (s.size : Int)) = true := by rw [beq_iff_eq]; omega
      have HT := hid (txr_ok HVV.out HB.out (by rw [HL.out]; exact he))
      clear he
      go_wp2_with fail
      refine ret_cell (x := k3) (ok := true) (d := d2) rfl rfl rfl ((blk_put hb2 _ _ _).alloc _) ?_
      exact ⟨k3, true, d2, rfl, (below_put hBB2 (by rw [HR.out]; exact Nat.le_refl _) _ _ _).alloc (by simp; have := HR.out; omega) _, hk4, by omega, HT.out⟩
    · have heI : ((k3 : Int) == (s.size : Int)) = false := by rw [beq_eq_false_iff_ne]; omega
      have HT := hid (txr_no HVV.out HB.out (by rw [HL.out]; exact he))
      clear he
      go_wp2_with fail
      refine ret_cell (x := k3) (ok := false) (d := d2) rfl rfl rfl ((blk_put hb2 _ _ _).alloc _) ?_
      exact ⟨k3, false, d2, rfl, (below_put hBB2 (by rw [HR.out]; exact Nat.le_refl _) _ _ _).alloc (by simp; have := HR.out; omega) _, hk4, by omega, HT.out⟩

theorem txr_verd {l : List Nat} {ok : Bool} {k d deep : Nat} (h : TxR l ok k d) (hl : l.length ≤ 65536) : (ok = true ∧ verd l deep = if deep < d then (2, d) else (1, d)) ∨ (ok = false ∧ verd l deep = (3, k)) := by
  rcases h with ⟨rfl, hk, hr⟩ | ⟨rfl, q, hr, hd⟩
  · refine Or.inl ⟨rfl, ?_⟩
    rw [hk] at hr
    obtain ⟨q0, hg, hf0, hm0⟩ := goA_fin hr (beh_fin d)
    unfold verd
    rw [if_neg (by omega), hg, if_pos ⟨rfl, hf0⟩, hm0]; rfl
  · refine Or.inr ⟨rfl, ?_⟩
    obtain ⟨q0, hg, hn⟩ := goA_dead hr hd
    unfold verd
    rw [if_neg (by omega), hg, if_neg hn]

set_option maxHeartbeats 2000000 in
theorem rvalid_any (s : ByteArray) (deep : Nat) (w : World) :
    Calls Try.prog 16 #[.string s, .int .i64 (deep : Nat)] w fun e w' => e = .returned (.tuple #[.int .i64 ((verd (nb s) deep).1 : Nat), .int .i64 ((verd (nb s) deep).2 : Nat)]) ∧ Below w.heap.size w w' := by
  have HL := hid (nb_length s)
  rcases Nat.lt_or_ge 65536 s.size with hs | hs
  · have hv : verd (nb s) deep = (4, 0) := by unfold verd; rw [if_pos (by rw [HL.out]; exact hs)]
    rw [hv]
    have d3 : decide ((s.size : Int) > 65536) = true := decide_eq_true (by omega)
    go_enter Try.func16, Try.ntmps16
    go_wp2_with fail
    go_ret2
    exact ⟨rfl, Below.refl _ _⟩
  · have d3 : decide ((s.size : Int) > 65536) = false := decide_eq_false (by omega)
    have d3N : ¬ (65536 < s.size) := by omega
    go_enter Try.func16, Try.ntmps16
    go_wp2_with fail
    (with_reducible refine (rtext_any s _ hs).mono ?_)
    rintro e w2 ⟨k2, ok2, d2, rfl, hB2, hk2, hd2, ht⟩
    unfold RR RC
    have hB3 := hB2.alloc hB2.size (.cells #[.int .i64 (k2 : Nat), .bool ok2, .int .i64 (d2 : Nat)] 56)
    rcases txr_verd (deep := deep) ht (by rw [HL.out]; exact hs) with ⟨rfl, hv⟩ | ⟨rfl, hv⟩
    · by_cases hdm : deep < d2
      · rw [if_pos hdm] at hv
        have HV := hid hv
        have d4 : decide ((d2 : Int) > (deep : Int)) = true := decide_eq_true (by omega)
        clear hv ht
        go_wp2_with fail
        go_quiet (fail)
        go_wp2_with fail
        go_ret2
        exact ⟨by rw [HV.out]; rfl, below_drewN hB3 _⟩
      · rw [if_neg hdm] at hv
        have HV := hid hv
        have d4 : decide ((d2 : Int) > (deep : Int)) = false := decide_eq_false (by omega)
        clear hv ht
        go_wp2_with fail
        go_quiet (fail)
        go_wp2_with fail
        go_ret2
        exact ⟨by rw [HV.out]; rfl, below_drewN hB3 _⟩
    · have HV := hid hv
      clear hv ht
      go_wp2_with fail
      go_quiet (fail)
      go_wp2_with fail
      go_ret2
      exact ⟨by rw [HV.out]; rfl, below_drewN hB3 _⟩

set_option maxHeartbeats 2000000 in
theorem validates_any (s : ByteArray) (deep : Int) (w : World) (hs : s.size ≤ 9223372036854775807) (hd1 : -9223372036854775808 ≤ deep) (hd2 : deep ≤ 9223372036854775807) :
    Calls Try.prog 3 #[.string s, .int .i64 deep] w fun e w' => e = .returned (.bool true) ∧ Below w.heap.size w w' := by
  rcases Nat.lt_or_ge 300 s.size with h3 | h3
  · have d1 : decide ((s.size : Int) > 300) = true := decide_eq_true (by omega)
    go_enter Try.func3, Try.ntmps3
    go_wp2_with fail
    refine (awake12 _).mono ?_
    rintro e w1 ⟨rfl, hB1⟩
    go_wp2_with fail
    refine (awake12 _).mono ?_
    rintro e w2 ⟨rfl, hB2⟩
    go_wp2_with fail
    go_ret
    exact ⟨rfl, hB1.trans (hB2.mono hB1.size)⟩
  · have d1 : decide ((s.size : Int) > 300) = false := decide_eq_false (by omega)
    have d1N : ¬ (300 < s.size) := by omega
    by_cases hdd : deep < 1 ∨ 4096 < deep
    · have HA := hid (fun W => valid_arg s deep W hdd)
      have hg : decide (deep < 1) = true ∨ (decide (deep < 1) = false ∧ decide (deep > 4096) = true) := by
        by_cases h : deep < 1
        · exact Or.inl (decide_eq_true h)
        · exact Or.inr ⟨decide_eq_false h, decide_eq_true (by omega)⟩
      clear hdd
      rcases hg with g1 | ⟨g1, g2⟩
      all_goals
        go_enter Try.func3, Try.ntmps3
        go_wp2_with fail
        refine (awake12 _).mono ?_
        rintro e w1 ⟨rfl, hB1⟩
        go_wp2_with fail
        (with_reducible refine (HA.out _).mono ?_)
        rintro e w2 ⟨rfl, rfl⟩
        go_wp2_with fail
        go_ret
        exact ⟨rfl, hB1⟩
    · obtain ⟨D, rfl⟩ : ∃ D : Nat, deep = (D : Int) := ⟨deep.toNat, by omega⟩
      have hD1 : 1 ≤ D := by omega
      have hD2 : D ≤ 4096 := by omega
      have g1 : decide ((D : Int) < 1) = false := decide_eq_false (by omega)
      have g1N : ¬ (D < 1) := by omega
      have g2 : decide ((D : Int) > 4096) = false := decide_eq_false (by omega)
      have g2N : ¬ (4096 < D) := by omega
      have HA := hid (fun W => valid_any s D W hD1 hD2)
      have HB := hid (fun W => rvalid_any s D W)
      obtain ⟨v, hv⟩ : ∃ v, v = verd (nb s) D := ⟨_, rfl⟩
      rw [← hv] at HA HB
      obtain ⟨v1, v2⟩ := v
      clear hv hdd
      go_enter Try.func3, Try.ntmps3
      go_wp2_with fail
      refine (awake12 _).mono ?_
      rintro e w1 ⟨rfl, hB1⟩
      go_wp2_with fail
      refine (HA.out _).mono ?_
      rintro e w2 ⟨rfl, hB2⟩
      have hBB2 := hB1.trans (hB2.mono hB1.size)
      go_wp2_with fail
      refine (HB.out _).mono ?_
      rintro e w3 ⟨rfl, hB3⟩
      go_wp2_with fail
      go_ret
      exact ⟨rfl, hBB2.trans (hB3.mono hBB2.size)⟩

end Go.Proofs.Ytegoephanphnkaa
