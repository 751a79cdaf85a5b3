/- Walks: reference 12: a string. -/
import Derived.Test.YtegoephanphnkaaRefI
import Derived.Test.YtegoephanphnkaaScanG
set_option linter.unusedVariables false
set_option linter.unusedSimpArgs false
set_option maxRecDepth 100000
namespace Go.Proofs.Ytegoephanphnkaa
open Go.RowKit Go.Shelf L

section
variable {l : List Nat} {k p : Nat}
theorem at_drop (l : List Nat) (p i : Nat) : at_ (l.drop p) i = at_ l (p + i) := by unfold at_; rw [List.getElem?_drop]
/-- So many bytes of a scalar, alive. -/
theorem str_alive (h : InS l k 0 p) (hc : ¬ (at_ l p < 32 ∨ at_ l p = 34 ∨ at_ l p = 92)) : ∀ j, p + j ≤ l.length → (∀ i, i < j → us (l.drop p) (i + 1) ≤ 7) → (∀ i, 0 < i → i < j → us (l.drop p) i ≠ 0) → InS l k (us (l.drop p) j) (p + j)
  | 0, _, _, _ => h
  | j + 1, h1, h2, h3 => by
    have ih := str_alive h hc j (by omega) (fun i hi => h2 i (by omega)) (fun i a b => h3 i a (by omega))
    have e : us (l.drop p) (j + 1) = ustep (us (l.drop p) j) (at_ l (p + j)) := by rw [us_to, at_drop]
    rw [e]
    refine str_step ih (by omega) (fun hh => ?_) (by rw [← e]; exact h2 j (by omega))
    rcases Nat.eq_zero_or_pos j with h0 | h0
    · subst h0; exact hc hh.2
    · exact h3 j h0 (by omega) hh.1
theorem str_lives {n : Nat} (h : InS l k 0 p) (hc : ¬ (at_ l p < 32 ∨ at_ l p = 34 ∨ at_ l p = 92)) (hl : Lives (l.drop p) n) : InS l k 0 (p + n) ∧ p + n ≤ l.length := by
  obtain ⟨h1, h2, h3, h4, h5⟩ := hl
  rw [List.length_drop] at h3
  have := str_alive h hc n (by omega) (fun i hi => by
    rcases Nat.lt_or_ge (i + 1) n with h6 | h6
    · exact (h5 (i + 1) (by omega) h6).2
    · have : i + 1 = n := by omega
      rw [this, h4]; omega) (fun i a b => (h5 i a b).1)
  rw [h4] at this
  exact ⟨this, by omega⟩
theorem str_dies {m : Nat} (h : InS l k 0 p) (hp : p < l.length) (hc : ¬ (at_ l p < 32 ∨ at_ l p = 34 ∨ at_ l p = 92)) (hl : DiesAt (l.drop p) m) : Strg l k false (p + m) ∧ p + m ≤ l.length := by
  obtain ⟨h1, h2, h3, h4⟩ := hl
  rw [List.length_drop] at h2 h4
  have hin := str_alive h hc m (by omega) (fun i hi => (h3 (i + 1) (by omega) (by omega)).2) (fun i a b => (h3 i a (by omega)).1)
  refine ⟨?_, by omega⟩
  rcases Nat.lt_or_ge (p + m) l.length with h5 | h5
  · rcases h4 with h4 | h4
    · omega
    · rw [us_to, at_drop] at h4
      refine str_bad hin h5 (fun hh => ?_) (by omega)
      rcases Nat.eq_zero_or_pos m with h0 | h0
      · subst h0; exact hc hh.2
      · exact (h3 m h0 (Nat.le_refl _)).1 hh.1
  · exact str_out hin (by omega)
end

set_option maxHeartbeats 2000000 in
theorem rstr_any (s : ByteArray) (k : Nat) (w : World) (hk : k ≤ s.size) (hs : s.size ≤ 65536) :
    Calls Try.prog 44 #[.string s, .int .i64 (k : Nat)] w fun e w' => ∃ (k' : Nat) (ok : Bool), e = .returned (RR k' ok 0) ∧ Below w.heap.size w w' ∧ k' ≤ s.size ∧ ((at_ (nb s) k ≠ 34 ∧ ok = false ∧ k' = k) ∨ (at_ (nb s) k = 34 ∧ Strg (nb s) (k + 1) ok k')) := by
  have hll := nb_length s
  have HL := hid hll
  have hB0 := (Below.refl w.heap.size w).alloc (Nat.le_refl _) (.cells #[.int .i64 0, .bool false, .int .i64 0] 56)
  have hb0 : BlkIs (w.alloc (.cells #[.int .i64 0, .bool false, .int .i64 0] 56)) w.heap.size 56 (RC 0 false 0) := BlkIs.new w _ _
  have x1 := wrap_one k (by omega)
  go_enter Try.func44, Try.ntmps44
  by_cases h34 : at_ (nb s) k = 34
  · have hks : k < s.size := by rw [← hll]; exact at_ne (by omega)
    have HA := hid (at_nb s k hks)
    have H34 := hid h34
    have hki : (k : Int) < (s.size : Int) := by omega
    have hge : decide ((k : Int) ≥ (s.size : Int)) = false := decide_eq_false (by omega)
    have hgeN : ¬ (s.size ≤ k) := by omega
    have hcI : ((s[k]).toNat : Int) = 34 := by have := HA.out; omega
    clear h34 hll
    go_wp2_with fail
    generalize hW0 : w.alloc (.cells #[.int .i64 0, .bool false, .int .i64 0] 56) = W0 at *
    clear hW0 hcI hge hgeN
    obtain ⟨r, hr⟩ : ∃ r, r = w.heap.size := ⟨_, rfl⟩
    rw [← hr] at hb0
    rw [← hr]
    have HR := hid hr
    clear hr
    obtain ⟨p0, hp0⟩ : ∃ p0, p0 = k + 1 := ⟨_, rfl⟩
    have hp0I : (k : Int) + 1 = (p0 : Int) := by omega
    rw [hp0I]
    have HP0 := hid hp0
    clear hp0 hp0I x1 hki
    go_loopw [1] (fun av wr => ∃ p : Nat, av = .int .i64 (p : Nat) ∧ p ≤ s.size ∧ InS (nb s) (k + 1) 0 p ∧ Below w.heap.size w wr ∧ BlkIs wr r 56 (RC 0 false 0)) (fun av _ => s.size - (intOf av).toNat)
    case atStart => exact ⟨p0, rfl, by rw [HP0.out]; omega, by rw [HP0.out]; exact fun q kk => R.refl (by rw [HL.out]; omega), hB0, hb0⟩
    case round =>
      clear hB0 hb0 HP0
      obtain ⟨p, rfl, hp, hin, hB, hb⟩ := hrel
      have HIN := hid hin
      have hrs := hb.lt
      obtain ⟨c0, c1, c2, f0, f1, f2⟩ := blk_cells hb
      clear hin
      rcases Nat.lt_or_ge p s.size with h | h
      · have hpi : (p : Int) < (s.size : Int) := by omega
        have hpi2 : decide ((p : Int) < (s.size : Int)) = true := decide_eq_true hpi
        have HAp := hid (at_nb s p h)
        have HPL := hid (show p < (nb s).length by rw [HL.out]; exact h)
        have hlt := UInt8.toNat_lt s[p]
        have x1 := wrap_one p (by omega)
        by_cases e34 : (s[p]).toNat = 34
        · have eI : ((s[p]).toNat : Int) = 34 := by omega
          have HE := hid (str_end HIN.out (by rw [HAp.out]; exact e34))
          have hp1I : (p : Int) + 1 = ((p + 1 : Nat) : Int) := by omega
          have HQ := hid hp1I
          clear e34 hp1I
          go_wp2_with fail
          refine ret_cell (x := p + 1) (ok := true) (d := 0) rfl rfl rfl (by rw [HQ.out]; exact blk_put hb _ _ _) ?_
          exact ⟨p + 1, true, rfl, below_put hB (by rw [HR.out]; exact Nat.le_refl _) _ _ _, h, Or.inr ⟨H34.out, HE.out⟩⟩
        · have e34I : (((s[p]).toNat : Int) == 34) = false := by rw [beq_eq_false_iff_ne]; omega
          by_cases e32 : (s[p]).toNat < 32
          · have eI : decide (((s[p]).toNat : Int) < 32) = true := decide_eq_true (by omega)
            have HE := hid (str_low HIN.out HPL.out (by rw [HAp.out]; exact e32))
            clear e34
            go_wp2_with (go_at_call 42; refine (rbad_any p _).mono ?_; rintro e w2 ⟨rfl, hB2⟩; unfold RR RC; have hb2 : BlkIs w2 r 56 (RC 0 false 0) := BlkIs.below hb hB2; obtain ⟨c0, c1, c2, f0, f1, f2⟩ := blk_cells hb2)
            refine ret_cell rfl rfl rfl (blk_put hb2 _ _ _) ?_
            exact ⟨p, false, rfl, below_put (hB.trans (hB2.mono hB.size)) (by rw [HR.out]; exact Nat.le_refl _) _ _ _, hp, Or.inr ⟨H34.out, HE.out⟩⟩
          · have e32I : decide (((s[p]).toNat : Int) < 32) = false := decide_eq_false (by omega)
            by_cases e92 : (s[p]).toNat = 92
            · have e92I : ((s[p]).toNat : Int) = 92 := by omega
              have H92 := hid (show at_ (nb s) p = 92 by rw [HAp.out]; exact e92)
              obtain ⟨p1, hp1⟩ : ∃ p1, p1 = p + 1 := ⟨_, rfl⟩
              have hp1I : (p : Int) + 1 = (p1 : Int) := by omega
              have hp1W : IntKind.i64.wrap (p1 : Int) = (p1 : Int) := by rw [IntKind.wrap_i64]; omega
              have RE := hid (fun W => rescape_any s p1 W (by omega) hs)
              have HP1 := hid hp1
              clear e34 e32 e92 hp1
              go_wp2_with fail
              (with_reducible refine (RE.out _).mono ?_)
              rintro e w2 ⟨k2, ok2, rfl, hB2, hk2, hes⟩
              unfold RR RC
              rw [HP1.out] at hes
              have hst := hid (str_esc HIN.out H92.out hes)
              have HM := hid (show p < k2 by have := (hes L.start false).le.1; omega)
              clear hes
              have hb2 : BlkIs w2 r 56 (RC 0 false 0) := BlkIs.below hb hB2
              have hBB2 := hB.trans (hB2.mono hB.size)
              have hr2 := hb2.lt
              clear hB2 c0 c1 c2 f0 f1 f2 hB hb hrs
              obtain ⟨c0, c1, c2, f0, f1, f2⟩ := blk_cells hb2
              cases ok2
              · rcases hst.out with ⟨h, _⟩ | ⟨_, hst2⟩
                · cases h
                · have HS2 := hid hst2
                  clear hst2
                  go_wp2_with fail
                  refine ret_cell rfl rfl rfl ((blk_put hb2 _ _ _).alloc _) ?_
                  exact ⟨k2, false, rfl, (below_put hBB2 (by rw [HR.out]; exact Nat.le_refl _) _ _ _).alloc (by simp; have := HR.out; omega) _, hk2, Or.inr ⟨H34.out, HS2.out⟩⟩
              · rcases hst.out with ⟨_, hst2⟩ | ⟨h, _⟩
                · have HS2 := hid hst2
                  clear hst2
                  go_wp2_with fail
                  go_roundw
                  case rel => exact ⟨k2, rfl, hk2, HS2.out, hBB2.alloc hBB2.size _, hb2.alloc _⟩
                  case measure => have := HM.out; simp [intOf]; omega
                · cases h
            · have e92I : (((s[p]).toNat : Int) == 92) = false := by rw [beq_eq_false_iff_ne]; omega
              have HC := hid (show ¬ (at_ (nb s) p < 32 ∨ at_ (nb s) p = 34 ∨ at_ (nb s) p = 92) by rw [HAp.out]; omega)
              have HX := hid (nb_drop s p)
              have HSC := hid (fun W => scalar_any (s.extract p s.size) W (by have := nb_length (s.extract p s.size); rw [HX.out, List.length_drop, HL.out] at this; omega))
              have HSP := hid (scN_spec (l := (nb s).drop p) (by rw [List.length_drop]; have := HPL.out; omega))
              clear e34 e32 e92
              go_wp2_with fail
              (with_reducible refine (HSC.out _).mono ?_)
              rintro e w2 ⟨c2, rfl, hB2⟩
              rw [HX.out]
              have hb2 : BlkIs w2 r 56 (RC 0 false 0) := BlkIs.below hb hB2
              have hBB2 := hB.trans (hB2.mono hB.size)
              clear hB2 c0 c1 f0 f1 f2 hB hb hrs
              rcases HSP.out with ⟨e0, m, hd⟩ | hl
              · rw [e0]
                have HD := hid (str_dies HIN.out HPL.out HC.out hd)
                have hm3 := hd.1
                have hd4 := dies_four hd
                obtain ⟨q, hq⟩ : ∃ q, q = p + m := ⟨_, rfl⟩
                have hqI : (p : Int) + (m : Int) = (q : Int) := by omega
                have hqW : IntKind.i64.wrap (q : Int) = (q : Int) := by rw [IntKind.wrap_i64]; omega
                have HQ := hid hq
                have HLV := hid (fun W b (hb : (s.extract p b).size ≤ 65536) (h : nb (s.extract p b) = ((nb s).drop p).take 4) => live_any (s.extract p b) m W hb (by rw [h]; exact hd4))
                clear hd hd4 hq e0
                go_wp2_with fail
                obtain ⟨b, hb⟩ : ∃ b, b = (min ((p : Int) + 4) (s.size : Int)).toNat := ⟨_, rfl⟩
                have hbb : b = min (p + 4) s.size := by omega
                have hnb : nb (s.extract p b) = ((nb s).drop p).take 4 := by
                  rw [nb_ext, hbb]
                  rcases Nat.lt_or_ge s.size (p + 4) with h5 | h5
                  · rw [Nat.min_eq_right (by omega), List.take_of_length_le (by rw [List.length_drop, HL.out]; omega), List.take_of_length_le (by rw [List.length_drop, HL.out]; omega)]
                  · rw [Nat.min_eq_left h5, show p + 4 - p = 4 from by omega]
                rw [← hb]
                have hsz : (s.extract p b).size ≤ 65536 := by have := nb_length (s.extract p b); rw [hnb, List.length_take] at this; omega
                clear hb hbb
                (with_reducible refine (HLV.out _ b hsz hnb).mono ?_)
                rintro e w3 ⟨rfl, hB3⟩
                clear hnb hsz
                have hb3 : BlkIs w3 r 56 (RC 0 false 0) := BlkIs.below hb2 hB3
                have hBB3 := hBB2.trans (hB3.mono hBB2.size)
                clear hB3
                go_wp2_with fail
                (with_reducible refine (rbad_any q _).mono ?_)
                rintro e w4 ⟨rfl, hB4⟩
                unfold RR RC
                have hb4 : BlkIs w4 r 56 (RC 0 false 0) := BlkIs.below hb3 hB4
                obtain ⟨c0, c1, c2, f0, f1, f2⟩ := blk_cells hb4
                go_wp2_with fail
                refine ret_cell rfl rfl rfl (blk_put hb4 _ _ _) ?_
                exact ⟨q, false, rfl, below_put (hBB3.trans (hB4.mono hBB3.size)) (by rw [HR.out]; exact Nat.le_refl _) _ _ _, by rw [HQ.out]; have := HD.out.2; rw [HL.out] at this; exact this, Or.inr ⟨H34.out, by rw [HQ.out]; exact HD.out.1⟩⟩
              · have HLS := hid (str_lives HIN.out HC.out hl)
                have hn1 := hl.1
                have hn4 := hl.2.1
                clear hl
                generalize scN ((nb s).drop p) = n at *
                have hn0 : ((n : Int) == 0) = false := by rw [beq_eq_false_iff_ne]; omega
                obtain ⟨q, hq⟩ : ∃ q, q = p + n := ⟨_, rfl⟩
                have hqI : (p : Int) + (n : Int) = (q : Int) := by omega
                have hqW : IntKind.i64.wrap (q : Int) = (q : Int) := by rw [IntKind.wrap_i64]; omega
                have HQ := hid hq
                have HL2 := HLS.out.2
                rw [HL.out] at HL2
                clear hq
                go_wp2_with fail
                go_roundw
                case rel => exact ⟨q, rfl, by have := HQ.out; omega, by rw [HQ.out]; exact HLS.out.1, hBB2, hb2⟩
                case measure => have := HQ.out; simp [intOf]; omega
      · have hpi : decide ((p : Int) < (s.size : Int)) = false := decide_eq_false (by omega)
        have hpN : ¬ (p < s.size) := by omega
        have HE := hid (str_out HIN.out (by rw [HL.out]; omega))
        go_wp2_with (go_at_call 42; refine (rbad_any p _).mono ?_; rintro e w2 ⟨rfl, hB2⟩; unfold RR RC; have hb2 : BlkIs w2 r 56 (RC 0 false 0) := BlkIs.below hb hB2; obtain ⟨c0, c1, c2, f0, f1, f2⟩ := blk_cells hb2)
        refine ret_cell rfl rfl rfl (blk_put hb2 _ _ _) ?_
        exact ⟨p, false, rfl, below_put (hB.trans (hB2.mono hB.size)) (by rw [HR.out]; exact Nat.le_refl _) _ _ _, hp, Or.inr ⟨H34.out, HE.out⟩⟩
  · have H34 := hid h34
    clear h34
    rcases Nat.lt_or_ge k s.size with hks | hks
    · have HA := hid (at_nb s k hks)
      have hki : (k : Int) < (s.size : Int) := by omega
      have hge : decide ((k : Int) ≥ (s.size : Int)) = false := decide_eq_false (by omega)
      have hgeN : ¬ (s.size ≤ k) := by omega
      have hcI : (((s[k]).toNat : Int) != 34) = true := by rw [bne_iff_ne]; have := HA.out; have := H34.out; omega
      go_wp2_with fail
      (with_reducible refine (rbad_any k _).mono ?_)
      rintro e w2 ⟨rfl, hB2⟩
      unfold RR RC
      have hb2 := BlkIs.below hb0 hB2
      obtain ⟨c0, c1, c2, f0, f1, f2⟩ := blk_cells hb2
      go_wp2_with fail
      refine ret_cell rfl rfl rfl (blk_put hb2 _ _ _) ?_
      exact ⟨k, false, rfl, below_put (hB0.trans (hB2.mono hB0.size)) (Nat.le_refl _) _ _ _, hk, Or.inl ⟨H34.out, rfl, rfl⟩⟩
    · have hge : decide ((k : Int) ≥ (s.size : Int)) = true := decide_eq_true (by omega)
      go_wp2_with fail
      (with_reducible refine (rbad_any k _).mono ?_)
      rintro e w2 ⟨rfl, hB2⟩
      unfold RR RC
      have hb2 := BlkIs.below hb0 hB2
      obtain ⟨c0, c1, c2, f0, f1, f2⟩ := blk_cells hb2
      go_wp2_with fail
      refine ret_cell rfl rfl rfl (blk_put hb2 _ _ _) ?_
      exact ⟨k, false, rfl, below_put (hB0.trans (hB2.mono hB0.size)) (Nat.le_refl _) _ _ _, hk, Or.inl ⟨H34.out, rfl, rfl⟩⟩

end Go.Proofs.Ytegoephanphnkaa
