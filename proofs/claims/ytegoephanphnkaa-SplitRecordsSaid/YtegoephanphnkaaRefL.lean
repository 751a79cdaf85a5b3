/- Walks: reference 12: a member, what stands in brackets. -/
import Derived.Test.YtegoephanphnkaaRefK
set_option linter.unusedVariables false
set_option linter.unusedSimpArgs false
set_option maxRecDepth 100000
namespace Go.Proofs.Ytegoephanphnkaa
open Go.RowKit Go.Shelf L

set_option maxHeartbeats 2000000 in
theorem item_arr (s : ByteArray) (k : Nat) (hk : k ≤ s.size) (hs : s.size ≤ 65536) (hV : VC s k) : IC s false k := by
  intro w
  change Calls Try.prog 54 #[.string s, .int .i64 (k : Nat), .int .u8 93] w _
  have hB0 := (Below.refl w.heap.size w).alloc (Nat.le_refl _) (.cells #[.int .i64 0, .bool false, .int .i64 0] 56)
  have hb0 : BlkIs (w.alloc (.cells #[.int .i64 0, .bool false, .int .i64 0] 56)) w.heap.size 56 (RC 0 false 0) := BlkIs.new w _ _
  have HV := hid (show ∀ W, Calls Try.prog 35 #[.string s, .int .i64 (k : Nat)] W (VPost s k (fun ok k' d => VAL (nb s) k ok k' d) W) from hV)
  clear hV
  go_enter Try.func54, Try.ntmps54
  go_wp2_with fail
  (with_reducible refine (HV.out _).mono ?_)
  rintro e w2 ⟨k2, ok2, d2, rfl, hB2, hk3, hkd, htk⟩
  unfold RR RC
  have htk := hid htk
  have hb2 := BlkIs.below hb0 hB2
  obtain ⟨c0, c1, c2, f0, f1, f2⟩ := blk_cells hb2
  go_wp2_with fail
  refine ret_cell rfl rfl rfl (blk_put hb2 _ _ _) ?_
  exact ⟨k2, ok2, d2, rfl, below_put (hB0.trans (hB2.mono hB0.size)) (Nat.le_refl _) _ _ _, hk3, hkd, item_val htk.out⟩

theorem key_le {l : List Nat} {k k' : Nat} {ok : Bool} (h : KEY l k ok k') : k ≤ k' := (h [] 0).le.1
theorem col_le {l : List Nat} {k k' : Nat} {ok : Bool} (h : COL l k ok k') : k ≤ k' := (h [] 0).le.1

set_option maxHeartbeats 4000000 in
theorem item_obj (s : ByteArray) (k : Nat) (hk : k ≤ s.size) (hs : s.size ≤ 65536) (hV : ∀ k', k ≤ k' → k' ≤ s.size → VC s k') : IC s true k := by
  intro w
  change Calls Try.prog 54 #[.string s, .int .i64 (k : Nat), .int .u8 125] w _
  have HL := hid (nb_length s)
  have hB0 := (Below.refl w.heap.size w).alloc (Nat.le_refl _) (.cells #[.int .i64 0, .bool false, .int .i64 0] 56)
  have hb0 : BlkIs (w.alloc (.cells #[.int .i64 0, .bool false, .int .i64 0] 56)) w.heap.size 56 (RC 0 false 0) := BlkIs.new w _ _
  have HV := hid (show ∀ k', k ≤ k' → k' ≤ s.size → ∀ W, Calls Try.prog 35 #[.string s, .int .i64 (k' : Nat)] W (VPost s k' (fun ok k'' d => VAL (nb s) k' ok k'' d) W) from hV)
  clear hV
  go_enter Try.func54, Try.ntmps54
  go_wp2_with fail
  (with_reducible refine (rblanks_any s k _ hk hs).mono ?_)
  rintro e w1 ⟨k1, rfl, rfl, hbk⟩
  generalize hW0 : w.alloc (.cells #[.int .i64 0, .bool false, .int .i64 0] 56) = W0 at *
  clear hW0
  obtain ⟨r, hr⟩ : ∃ r, r = w.heap.size := ⟨_, rfl⟩
  rw [← hr] at hb0
  rw [← hr]
  have HR := hid hr
  clear hr
  have hk1 : k ≤ k1 := hbk.1
  have hk2 : k1 ≤ s.size := by have := hbk.2.1; rw [HL.out] at this; exact this
  have HB := hid hbk
  clear hbk
  go_wp2_with fail
  (with_reducible refine (rstr_any s k1 _ hk2 hs).mono ?_)
  rintro e w2 ⟨k2, ok2, rfl, hB2, hk3, hst⟩
  unfold RR RC
  have HK := hid (key_str HB.out hst)
  have hkk2 := key_le HK.out
  clear hst HB
  have hb2 : BlkIs w2 r 56 (RC 0 false 0) := BlkIs.below hb0 hB2
  have hBB2 := hB0.trans (hB2.mono hB0.size)
  clear hb0 hB0 hB2
  have hr2 := hb2.lt
  obtain ⟨c0, c1, c2, f0, f1, f2⟩ := blk_cells hb2
  cases ok2
  · go_wp2_with fail
    refine ret_cell rfl rfl rfl ((blk_put hb2 _ _ _).alloc _) ?_
    exact ⟨k2, false, 0, rfl, (below_put hBB2 (by rw [HR.out]; exact Nat.le_refl _) _ _ _).alloc (by simp; have := HR.out; omega) _, hk3, by omega, item_key HK.out⟩
  · go_wp2_with fail
    (with_reducible refine (rblanks_any s k2 _ hk3 hs).mono ?_)
    rintro e w3 ⟨k3, rfl, rfl, hbk⟩
    have hk4 : k3 ≤ s.size := by have := hbk.2.1; rw [HL.out] at this; exact this
    have HB := hid hbk
    clear hbk
    go_wp2_with fail
    (with_reducible refine (rword_any { data := #[58] } s k3 _ hk4 hs colon_nz (by decide)).mono ?_)
    rintro e w4 ⟨k5, ok5, rfl, hB4, hk5, htk⟩
    unfold RR RC
    have HC := hid (key_col HK.out HB.out htk)
    have hkk5 := col_le HC.out
    clear htk HB
    have hb4 : BlkIs w4 r 56 (RC 0 false 0) := BlkIs.below (hb2.alloc _) hB4
    have hBB3 := hBB2.alloc hBB2.size (.cells #[.int .i64 (k2 : Nat), .bool true, .int .i64 0] 56)
    have hBB4 := hBB3.trans (hB4.mono hBB3.size)
    clear hb2 hBB2 hBB3 hB4 hr2 c0 c1 c2 f0 f1 f2
    have hr4 := hb4.lt
    obtain ⟨c0, c1, c2, f0, f1, f2⟩ := blk_cells hb4
    cases ok5
    · go_wp2_with fail
      refine ret_cell rfl rfl rfl ((blk_put hb4 _ _ _).alloc _) ?_
      exact ⟨k5, false, 0, rfl, (below_put hBB4 (by rw [HR.out]; exact Nat.le_refl _) _ _ _).alloc (by simp; have := HR.out; omega) _, hk5, by omega, item_col HC.out⟩
    · have HVV := hid (HV.out k5 (by omega) hk5)
      go_wp2_with fail
      (with_reducible refine (HVV.out _).mono ?_)
      rintro e w6 ⟨k6, ok6, d6, rfl, hB6, hk7, hkd, hvv⟩
      unfold RR RC
      have HM := hid (item_member HC.out hvv)
      clear hvv
      have hb6 : BlkIs w6 r 56 (RC 0 false 0) := BlkIs.below (hb4.alloc _) hB6
      have hBB5 := hBB4.alloc (by have := HR.out; omega) (.cells #[.int .i64 (k5 : Nat), .bool true, .int .i64 0] 56)
      have hBB6 := hBB5.trans (hB6.mono hBB5.size)
      clear hb4 hBB4 hBB5 hB6 hr4 c0 c1 c2 f0 f1 f2
      obtain ⟨c0, c1, c2, f0, f1, f2⟩ := blk_cells hb6
      go_wp2_with fail
      refine ret_cell rfl rfl rfl (blk_put hb6 _ _ _) ?_
      exact ⟨k6, ok6, d6, rfl, below_put hBB6 (by rw [HR.out]; exact Nat.le_refl _) _ _ _, hk7, by omega, HM.out⟩

set_option maxHeartbeats 4000000 in
theorem many_any (s : ByteArray) (t : Bool) (k : Nat) (hk : k ≤ s.size) (hs : s.size ≤ 65536) (hI : ∀ k', k ≤ k' → k' ≤ s.size → IC s t k') : MC s t k := by
  intro w
  have HE := hid (show endB t = 93 ∨ endB t = 125 by cases t; exact Or.inl rfl; exact Or.inr rfl)
  unfold IC at hI
  obtain ⟨eb, heb⟩ : ∃ eb, eb = endB t := ⟨_, rfl⟩
  rw [← heb] at HE
  have HEB := hid heb
  change Calls Try.prog 45 #[.string s, .int .i64 (k : Nat), .int .u8 (endB t : Nat)] w _
  rw [← heb] at hI ⊢
  clear heb
  have hebb : eb < 256 := by have := HE.out; omega
  have HL := hid (nb_length s)
  have hB0 := (Below.refl w.heap.size w).alloc (Nat.le_refl _) (.cells #[.int .i64 0, .bool false, .int .i64 0] 56)
  have hb0 : BlkIs (w.alloc (.cells #[.int .i64 0, .bool false, .int .i64 0] 56)) w.heap.size 56 (RC 0 false 0) := BlkIs.new w _ _
  have HI := hid hI
  clear hI
  go_enter Try.func45, Try.ntmps45
  go_wp2_with fail
  (with_reducible refine (rblanks_any s k _ hk hs).mono ?_)
  rintro e w1 ⟨k1, rfl, rfl, hbk⟩
  generalize hW0 : w.alloc (.cells #[.int .i64 0, .bool false, .int .i64 0] 56) = W0 at *
  clear hW0
  obtain ⟨r, hr⟩ : ∃ r, r = w.heap.size := ⟨_, rfl⟩
  rw [← hr] at hb0
  rw [← hr]
  have HR := hid hr
  clear hr
  have hk1 : k ≤ k1 := hbk.1
  have hk2 : k1 ≤ s.size := by have := hbk.2.1; rw [HL.out] at this; exact this
  have HB := hid hbk
  clear hbk
  have x1 := wrap_one k1 (by omega)
  have hr0 := hb0.lt
  obtain ⟨c0, c1, c2, f0, f1, f2⟩ := blk_cells hb0
  by_cases he : at_ (nb s) k1 = eb
  · have h : k1 < s.size := by rw [← HL.out]; exact at_ne (by have := HE.out; omega)
    have hki : (k1 : Int) < (s.size : Int) := by omega
    have hki2 : decide ((k1 : Int) < (s.size : Int)) = true := decide_eq_true hki
    have HA := hid (at_nb s k1 h)
    have eI : ((s[k1]).toNat : Int) = (eb : Int) := by have := HA.out; omega
    have HM := hid (many_empty HB.out (he.trans HEB.out))
    have HQ := hid (show (k1 : Int) + 1 = ((k1 + 1 : Nat) : Int) by omega)
    clear he
    go_wp2_with fail
    refine ret_cell (x := k1 + 1) (ok := true) (d := 1) rfl rfl rfl (by rw [HQ.out]; exact blk_put hb0 _ _ _) ?_
    exact ⟨k1 + 1, true, 1, rfl, below_put hB0 (by rw [HR.out]; exact Nat.le_refl _) _ _ _, h, by omega, HM.out, fun _ => by omega⟩
  · have HM := hid (many_first HB.out (fun e => he (e.trans HEB.out.symm)))
    have hWay : (∃ h : k1 < s.size, (((s[k1]).toNat : Int) == (eb : Int)) = false) ∨ s.size ≤ k1 := by
      rcases Nat.lt_or_ge k1 s.size with h | h
      · refine Or.inl ⟨h, ?_⟩
        rw [beq_eq_false_iff_ne]
        have := at_nb s k1 h
        omega
      · exact Or.inr h
    clear he
    have hWay2 : (decide ((k1 : Int) < (s.size : Int)) = false ∧ ¬ (k1 < s.size)) ∨ ∃ h : k1 < s.size, (k1 : Int) < (s.size : Int) ∧ decide ((k1 : Int) < (s.size : Int)) = true ∧ (((s[k1]).toNat : Int) == (eb : Int)) = false := by
      rcases hWay with ⟨h, e⟩ | h
      · exact Or.inr ⟨h, by omega, decide_eq_true (by omega), e⟩
      · exact Or.inl ⟨decide_eq_false (by omega), by omega⟩
    clear hWay
    have hszI : decide ((0 : Int) ≤ (s.size : Int)) = true := decide_eq_true (by omega)
    rcases hWay2 with ⟨hlt, hltN⟩ | ⟨h, hlt0, hlt, hne⟩
    all_goals
      go_wp2_with fail
      go_loopw [1, 7, 8] (fun av dv kv wr => ∃ p d j : Nat, av = .int .i64 (p : Nat) ∧ dv = .int .i64 (d : Nat) ∧ kv = .int .i64 (j : Nat) ∧ p ≤ s.size ∧ k + d ≤ p ∧ j ≤ p ∧ INM (nb s) t k p d ∧ Below w.heap.size w wr ∧ BlkIs wr r 56 (RC 0 false 0)) (fun _ _ kv _ => s.size + 1 - (intOf kv).toNat)
      case atStart => exact ⟨k1, 0, 0, rfl, rfl, rfl, hk2, by omega, by omega, HM.out, hB0, hb0⟩
      case round =>
        clear hlt HM hB0 hb0 c0 c1 c2 f0 f1 f2 x1 hr0 HB
        obtain ⟨p, d, j, rfl, rfl, rfl, hp, hkp, hjp, hin, hB, hb⟩ := hrel
        have HIN := hid hin
        clear hin
        have hji : (j : Int) ≤ (s.size : Int) := by omega
        have hji2 : decide ((j : Int) ≤ (s.size : Int)) = true := decide_eq_true hji
        have hjW := wrap_one j (by omega)
        have HII := hid (HI.out p (by omega) hp)
        have hr1 := hb.lt
        go_wp2_with fail
        (with_reducible refine (HII.out _).mono ?_)
        rintro e w2 ⟨p2, ok2, d2, rfl, hB2, hp2, hpd, hit⟩
        unfold RR RC
        have hit := hid hit
        have hb2 : BlkIs w2 r 56 (RC 0 false 0) := BlkIs.below hb hB2
        have hBB2 := hB.trans (hB2.mono hB.size)
        clear hb hB hB2 hr1
        have hr2 := hb2.lt
        obtain ⟨c0, c1, c2, f0, f1, f2⟩ := blk_cells hb2
        cases ok2
        · have HM := hid (many_item_bad (dd := 0) HIN.out hit.out)
          go_wp2_with fail
          refine ret_cell rfl rfl rfl ((blk_put hb2 _ _ _).alloc _) ?_
          exact ⟨p2, false, d2, rfl, (below_put hBB2 (by rw [HR.out]; exact Nat.le_refl _) _ _ _).alloc (by simp; have := HR.out; omega) _, hp2, by omega, many_item_bad HIN.out hit.out, fun h => by cases h⟩
        · obtain ⟨d3, hd3⟩ : ∃ d3, d3 = max d d2 := ⟨_, rfl⟩
          have hd3I : max (d : Int) (d2 : Int) = (d3 : Int) := by omega
          have hd3b : k + d3 ≤ p2 := by omega
          have HD3 := hid hd3
          clear hd3
          go_wp2_with fail
          (with_reducible refine (rblanks_any s p2 _ hp2 hs).mono ?_)
          rintro e w3 ⟨p3, rfl, rfl, hbk⟩
          have hp3 : p3 ≤ s.size := by have := hbk.2.1; rw [HL.out] at this; exact this
          have hp23 := hbk.1
          have hnb := hid hbk.nb
          have HBE := hid (many_item HIN.out hit.out hbk)
          rw [← HD3.out] at HBE
          clear hbk
          have x1 := wrap_one p3 (by omega)
          have x2 := wrap_one d3 (by omega)
          rcases Nat.lt_or_ge p3 s.size with h3 | h3
          · have h3I : (p3 : Int) < (s.size : Int) := by omega
            have h3I2 : decide ((p3 : Int) < (s.size : Int)) = true := decide_eq_true h3I
            have HA := hid (at_nb s p3 h3)
            have hge : decide ((p3 : Int) ≥ (s.size : Int)) = false := decide_eq_false (by omega)
            have hgeN : ¬ (s.size ≤ p3) := by omega
            by_cases he : (s[p3]).toNat = eb
            · have eI : ((s[p3]).toNat : Int) = (eb : Int) := by omega
              have HM := hid (many_close HBE.out (by rw [HA.out]; exact he.trans HEB.out))
              have HQ := hid (And.intro (show (p3 : Int) + 1 = ((p3 + 1 : Nat) : Int) by omega) (show (d3 : Int) + 1 = ((d3 + 1 : Nat) : Int) by omega))
              clear he
              go_wp2_with fail
              refine ret_cell (x := p3 + 1) (ok := true) (d := d3 + 1) rfl rfl rfl (by rw [HQ.out.1, HQ.out.2]; exact (blk_put hb2 _ _ _).alloc _) ?_
              exact ⟨p3 + 1, true, d3 + 1, rfl, (below_put hBB2 (by rw [HR.out]; exact Nat.le_refl _) _ _ _).alloc (by simp; have := HR.out; omega) _, h3, by omega, HM.out, fun _ => by omega⟩
            · have eN : (((s[p3]).toNat : Int) == (eb : Int)) = false := by rw [beq_eq_false_iff_ne]; omega
              by_cases h44 : (s[p3]).toNat = 44
              · have eI : (((s[p3]).toNat : Int) != 44) = false := by rw [bne_eq_false_iff_eq]; omega
                have HM := hid (many_comma HBE.out (by rw [HA.out]; exact h44))
                clear he h44
                go_wp2_with fail
                go_roundw
                case rel => exact ⟨p3 + 1, d3, j + 1, by go_num, rfl, by go_num, h3, by omega, by omega, HM.out, hBB2.alloc hBB2.size _, hb2.alloc _⟩
                case measure => simp [intOf]; omega
              · have eI : (((s[p3]).toNat : Int) != 44) = true := by rw [bne_iff_ne]; omega
                have HM := hid (many_bad (dd := 0) HBE.out (by rw [HL.out]; exact hp3) hnb.out (by rw [HA.out]; exact h44) (by rw [HA.out, ← HEB.out]; exact he))
                clear he h44
                go_wp2_with fail
                (with_reducible refine (rbad_any p3 _).mono ?_)
                rintro e w4 ⟨rfl, hB4⟩
                unfold RR RC
                have hb4 : BlkIs w4 r 56 (RC 0 false 0) := BlkIs.below (hb2.alloc _) hB4
                have hBB3 := hBB2.alloc hBB2.size (.cells #[.int .i64 (p2 : Nat), .bool true, .int .i64 (d2 : Nat)] 56)
                have hBB4 := hBB3.trans (hB4.mono hBB3.size)
                clear c0 c1 c2 f0 f1 f2
                obtain ⟨c0, c1, c2, f0, f1, f2⟩ := blk_cells hb4
                go_wp2_with fail
                refine ret_cell rfl rfl rfl (blk_put hb4 _ _ _) ?_
                exact ⟨p3, false, 0, rfl, below_put hBB4 (by rw [HR.out]; exact Nat.le_refl _) _ _ _, hp3, by omega, HM.out, fun h => by cases h⟩
          · have h3I2 : decide ((p3 : Int) < (s.size : Int)) = false := decide_eq_false (by omega)
            have h3N : ¬ (p3 < s.size) := by omega
            have hge : decide ((p3 : Int) ≥ (s.size : Int)) = true := decide_eq_true (by omega)
            have HM := hid (many_bad (dd := 0) HBE.out (by rw [HL.out]; exact hp3) hnb.out (by rw [at_out (by rw [HL.out]; exact h3)]; decide) (by rw [at_out (by rw [HL.out]; exact h3)]; cases t <;> decide))
            go_wp2_with fail
            (with_reducible refine (rbad_any p3 _).mono ?_)
            rintro e w4 ⟨rfl, hB4⟩
            unfold RR RC
            have hb4 : BlkIs w4 r 56 (RC 0 false 0) := BlkIs.below (hb2.alloc _) hB4
            have hBB3 := hBB2.alloc hBB2.size (.cells #[.int .i64 (p2 : Nat), .bool true, .int .i64 (d2 : Nat)] 56)
            have hBB4 := hBB3.trans (hB4.mono hBB3.size)
            clear c0 c1 c2 f0 f1 f2
            obtain ⟨c0, c1, c2, f0, f1, f2⟩ := blk_cells hb4
            go_wp2_with fail
            refine ret_cell rfl rfl rfl (blk_put hb4 _ _ _) ?_
            exact ⟨p3, false, 0, rfl, below_put hBB4 (by rw [HR.out]; exact Nat.le_refl _) _ _ _, hp3, by omega, HM.out, fun h => by cases h⟩

/-- All of them, by how much is left. -/
theorem value_all (s : ByteArray) (hs : s.size ≤ 65536) : ∀ n k, k ≤ s.size → s.size - k ≤ n → VC s k
  | 0, k, hk, hn => value_any s k hk hs (fun t k' h1 h2 => by omega)
  | n + 1, k, hk, hn => value_any s k hk hs (fun t k' h1 h2 => by
    refine many_any s t k' h2 hs (fun k2 h3 h4 => ?_)
    have hV : ∀ k3, k2 ≤ k3 → k3 ≤ s.size → VC s k3 := fun k3 h5 h6 => value_all s hs n k3 h6 (by omega)
    cases t
    · exact item_arr s k2 h4 hs (hV k2 (Nat.le_refl _) h4)
    · exact item_obj s k2 h4 hs hV)

end Go.Proofs.Ytegoephanphnkaa
