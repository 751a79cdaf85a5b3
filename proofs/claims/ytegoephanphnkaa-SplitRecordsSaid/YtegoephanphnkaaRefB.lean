/- Walks: reference 12: a word, an escape. -/
import Derived.Test.YtegoephanphnkaaRefA
set_option linter.unusedVariables false
set_option linter.unusedSimpArgs false
set_option maxRecDepth 100000
namespace Go.Proofs.Ytegoephanphnkaa
open Go.RowKit Go.Shelf L

theorem blk_cells {w : World} {g : Nat} {t : TypeId} {a b c : Value} (h : BlkIs w g t #[a, b, c]) : w.cell? ⟨g, 0, none⟩ = some a ∧ w.cell? ⟨g, 1, none⟩ = some b ∧ w.cell? ⟨g, 2, none⟩ = some c ∧ w.frozen? ⟨g, 0, none⟩ = false ∧ w.frozen? ⟨g, 1, none⟩ = false ∧ w.frozen? ⟨g, 2, none⟩ = false :=
  ⟨h.cell 0, h.cell 1, h.cell 2, h.frozen 0, h.frozen 1, h.frozen 2⟩
theorem blk_put {w : World} {g : Nat} {t : TypeId} {a b c : Value} (h : BlkIs w g t #[a, b, c]) (a' b' c' : Value) : BlkIs (((w.setCell ⟨g, 0, none⟩ a').setCell ⟨g, 1, none⟩ b').setCell ⟨g, 2, none⟩ c') g t #[a', b', c'] := ((h.put 0 a').put 1 b').put 2 c'
theorem below_put {B : Nat} {w w' : World} {g : Nat} (h : Below B w w') (hg : B ≤ g) (a' b' c' : Value) : Below B w (((w'.setCell ⟨g, 0, none⟩ a').setCell ⟨g, 1, none⟩ b').setCell ⟨g, 2, none⟩ c') := ((h.setCell (p := ⟨g, 0, none⟩) hg a').setCell (p := ⟨g, 1, none⟩) hg b').setCell (p := ⟨g, 2, none⟩) hg c'

set_option maxHeartbeats 2000000 in
theorem rword_any (u : ByteArray) (s : ByteArray) (k : Nat) (w : World) (hk : k ≤ s.size) (hs : s.size ≤ 65536) (hu : ∀ i, i < u.size → at_ (nb u) i ≠ 0) (hu2 : u.size ≤ 65536) :
    Calls Try.prog 43 #[.string s, .int .i64 (k : Nat), .string u] w fun e w' => ∃ (k' : Nat) (ok : Bool), e = .returned (RR k' ok 0) ∧ Below w.heap.size w w' ∧ k' ≤ s.size ∧ Tk (nb s) (nb u) k k' ok := by
  have hll := nb_length s
  have hul := nb_length u
  have hB0 := (Below.refl w.heap.size w).alloc (Nat.le_refl _) (.cells #[.int .i64 0, .bool false, .int .i64 0] 56)
  have hb0 : BlkIs (w.alloc (.cells #[.int .i64 0, .bool false, .int .i64 0] 56)) w.heap.size 56 (RC 0 false 0) := BlkIs.new w _ _
  have hsz : w.heap.size ≤ (w.alloc (.cells #[.int .i64 0, .bool false, .int .i64 0] 56)).heap.size := hB0.size
  have hg1 := hb0.lt
  go_enter Try.func43, Try.ntmps43
  go_wp2_with fail
  generalize hW0 : w.alloc (.cells #[.int .i64 0, .bool false, .int .i64 0] 56) = W0 at *
  clear hW0
  go_loopw [7] (fun i wr => ∃ j m : Nat, i = .int .i64 (j : Nat) ∧ j ≤ u.size ∧ wr = W0.drewN m ∧ k + j ≤ s.size ∧ (∀ i, i < j → at_ (nb s) (k + i) = at_ (nb u) i)) (fun i _ => u.size - (intOf i).toNat)
  case atStart => exact ⟨0, 0, rfl, by omega, rfl, by omega, fun i h => by omega⟩
  case round =>
    obtain ⟨j, m, rfl, hj, rfl, hk2, hbl⟩ := hrel
    have HL := hid hbl
    clear hbl
    rcases Nat.lt_or_ge j u.size with hlt | hge
    · have HU := hid (at_nb u j hlt)
      have HNZ := hid (hu j hlt)
      have hi : (j : Int) < (u.size : Int) := by omega
      have xj := wrap_one j (by omega)
      obtain ⟨p, hp⟩ : ∃ p, p = k + j := ⟨_, rfl⟩
      have hpI : (k : Int) + (j : Int) = (p : Int) := by omega
      have hpW : IntKind.i64.wrap (p : Int) = (p : Int) := by rw [IntKind.wrap_i64]; omega
      have HP := hid hp
      have hps : p ≤ s.size := by omega
      clear hp
      rcases Nat.lt_or_ge p s.size with h | h
      · have HA := hid (at_nb s p h)
        have hps2 : (p : Int) < (s.size : Int) := by omega
        have hge : decide ((p : Int) ≥ (s.size : Int)) = false := decide_eq_false (by omega)
        have hgeN : ¬ (s.size ≤ p) := by omega
        by_cases hc : (s[p]).toNat = (u[j]).toNat
        · have hcI : ((s[p]).toNat : Int) = ((u[j]).toNat : Int) := by rw [hc]
          have HC := hid hc
          clear hc
          go_wp2_with fail
          go_quiet (fail)
          go_wp2_with fail
          go_roundw
          case rel => exact ⟨j + 1, _, rfl, by omega, rfl, by have := HP.out; omega, fun i h1 => by
            rcases Nat.lt_or_ge i j with h3 | h3
            · exact HL.out i h3
            · obtain rfl : i = j := by omega
              rw [← HP.out, HA.out, HC.out, HU.out]⟩
          case measure => simp [intOf]; omega
        · have hcN : (((s[p]).toNat : Int) != ((u[j]).toNat : Int)) = true := by rw [bne_iff_ne]; omega
          have HC := hid hc
          clear hc
          go_wp2_with fail
          go_quiet (fail)
          go_wp2_with fail
          refine (rbad_any p _).mono ?_
          rintro e w2 ⟨rfl, hB2⟩
          unfold RR RC
          have hb2 : BlkIs w2 w.heap.size 56 (RC 0 false 0) := BlkIs.below (w := W0.drewN _) hb0 hB2
          obtain ⟨c0, c1, c2, f0, f1, f2⟩ := blk_cells hb2
          go_wp2_with fail
          refine ret_cell rfl rfl rfl (blk_put hb2 _ _ _) ?_
          exact ⟨p, false, rfl, below_put (hB0.trans ((below_drewN (Below.refl _ _) _).trans (hB2.mono hsz))) (Nat.le_refl _) _ _ _, hps, Or.inr ⟨rfl, j, by rw [hul]; exact hlt, HP.out, HL.out, by rw [HA.out, HU.out]; exact HC.out⟩⟩
      · have hge : decide ((p : Int) ≥ (s.size : Int)) = true := decide_eq_true (by omega)
        have HA := hid (at_out (l := nb s) (i := p) (by rw [hll]; exact h))
        go_wp2_with fail
        go_quiet (fail)
        go_wp2_with fail
        refine (rbad_any p _).mono ?_
        rintro e w2 ⟨rfl, hB2⟩
        unfold RR RC
        have hb2 : BlkIs w2 w.heap.size 56 (RC 0 false 0) := BlkIs.below (w := W0.drewN _) hb0 hB2
        obtain ⟨c0, c1, c2, f0, f1, f2⟩ := blk_cells hb2
        go_wp2_with fail
        refine ret_cell rfl rfl rfl (blk_put hb2 _ _ _) ?_
        exact ⟨p, false, rfl, below_put (hB0.trans ((below_drewN (Below.refl _ _) _).trans (hB2.mono hsz))) (Nat.le_refl _) _ _ _, hps, Or.inr ⟨rfl, j, by rw [hul]; exact hlt, HP.out, HL.out, by rw [HA.out]; exact HNZ.out.symm⟩⟩
    · obtain rfl : j = u.size := by omega
      obtain ⟨p, hp⟩ : ∃ p, p = k + u.size := ⟨_, rfl⟩
      have hpI : (k : Int) + (u.size : Int) = (p : Int) := by omega
      have hpW : IntKind.i64.wrap (p : Int) = (p : Int) := by rw [IntKind.wrap_i64]; omega
      have HP := hid hp
      have hps : p ≤ s.size := by omega
      clear hp
      have hb2 : BlkIs (W0.drewN m) w.heap.size 56 (RC 0 false 0) := hb0
      obtain ⟨c0, c1, c2, f0, f1, f2⟩ := blk_cells hb2
      go_wp2_with fail
      refine ret_cell rfl rfl rfl (blk_put hb2 _ _ _) ?_
      exact ⟨p, true, rfl, below_put (hB0.trans (below_drewN (Below.refl _ _) _)) (Nat.le_refl _) _ _ _, hps, Or.inl ⟨rfl, by rw [hul]; exact HP.out, by rw [hul]; exact HL.out⟩⟩

end Go.Proofs.Ytegoephanphnkaa
