/- Walks: the law ChooseLong returns true. -/
import Derived.Test.YtdhokioiloggeaaDoorLawChooseB
set_option linter.unusedVariables false
set_option linter.unusedSimpArgs false
set_option maxRecDepth 100000
namespace Go.Proofs.YtdhokioiloggeaaDoor
open Go.RowKit Go.Shelf L

theorem up_div (s i : Nat) (hs : 0 < s) : (i + 1 + s - 1) / s = (i + s - 1) / s + (if i % s = 0 then 1 else 0) := by
  obtain ⟨a, r, rfl, hr⟩ : ∃ a r, i = s * a + r ∧ r < s := ⟨i / s, i % s, (Nat.div_add_mod i s).symm, Nat.mod_lt _ hs⟩
  rw [Nat.mul_add_mod, Nat.mod_eq_of_lt hr]
  rw [show s * a + r + 1 + s - 1 = s * a + (r + s) from by omega, show s * a + r + s - 1 = s * a + (r + s - 1) from by omega, Nat.mul_add_div hs, Nat.mul_add_div hs]
  have h1 : (r + s) / s = 1 := by rw [Nat.add_div_right r hs, Nat.div_eq_of_lt hr]
  rw [h1]
  by_cases h : r = 0
  · subst h
    rw [if_pos rfl, Nat.div_eq_of_lt (show 0 + s - 1 < s by omega)]
  · rw [if_neg h]
    have h2 : (r + s - 1) / s = 1 := by
      rw [show r + s - 1 = (r - 1) + s from by omega, Nat.add_div_right _ hs, Nat.div_eq_of_lt (by omega)]
    rw [h2]
theorem kc_steps (bs : List Bool) (s : Nat) (hs : 0 < s) (hb : ∀ i, i < bs.length → bitAt bs i = decide (i % s = 0)) : ∀ i, i ≤ bs.length → kc true bs i = (i + s - 1) / s
  | 0, _ => by rw [show 0 + s - 1 = s - 1 from by omega, Nat.div_eq_of_lt (by omega)]; rfl
  | i + 1, h => by
    rw [kc_next true bs i (by omega), kc_steps bs s hs hb i (by omega), up_div s i hs, hb i (by omega)]
    by_cases h0 : i % s = 0
    · rw [if_pos h0, decide_eq_true h0]; rfl
    · rw [if_neg h0, decide_eq_false h0]; rfl
theorem pl_steps (bs : List Bool) (s k : Nat) (hs : 0 < s) (hb : ∀ i, i < bs.length → bitAt bs i = decide (i % s = 0)) :
    (k < (bs.length + s - 1) / s → k * s < bs.length ∧ bitAt bs (k * s) = true ∧ kc true bs (k * s) = k) := fun h => by
  have h1 : k * s < bs.length := by
    have h2 := Nat.mul_le_of_le_div s (k + 1) (bs.length + s - 1) (by omega)
    have h3 : (k + 1) * s = k * s + s := Nat.succ_mul k s
    omega
  refine ⟨h1, by rw [hb _ h1]; simp, ?_⟩
  rw [kc_steps bs s hs hb _ (by omega), show k * s + s - 1 = s * k + (s - 1) from by rw [Nat.mul_comm]; omega, Nat.mul_add_div hs, Nat.div_eq_of_lt (by omega)]; omega
theorem next_mult (s p i : Nat) (hs : 0 < s) (hp : p % s = 0) : (i % s = 0 ∧ i < p + s) ↔ ((i % s = 0 ∧ i < p) ∨ i = p) := by
  constructor
  · intro ⟨h1, h2⟩
    by_cases h : i < p
    · exact Or.inl ⟨h1, h⟩
    · right
      obtain ⟨r, rfl⟩ : ∃ r, i = p + r := ⟨i - p, by omega⟩
      have e : (p + r) % s = r := by rw [Nat.add_mod, hp, Nat.zero_add, Nat.mod_mod, Nat.mod_eq_of_lt (by omega)]
      omega
  · rintro (⟨h1, h2⟩ | h)
    · exact ⟨h1, by omega⟩
    · subst h; exact ⟨hp, by omega⟩

set_option maxHeartbeats 8000000 in
theorem lawChooseLong_any (n st k : Int) (w : World) (hn0 : 0 ≤ n) (hn1 : n ≤ 65535) (hs0 : 0 ≤ st) (hs1 : st ≤ 65535) (hk0 : 0 ≤ k) (hk1 : k ≤ 65535) (hT : Tab w) :
    Calls Tryd.prog 9 #[.int .u16 n, .int .u16 st, .int .u16 k] w fun e w' => e = .returned (.bool true) ∧ Below w.heap.size w w' := by
  obtain ⟨i0, hi0, iz0, iz1, iz2⟩ := info_parts Tryd.infoBool
  obtain ⟨N, hN⟩ : ∃ k : Nat, (k : Int) = 4000 + n % 16000 := ⟨(4000 + n % 16000).toNat, by omega⟩
  obtain ⟨s, hs⟩ : ∃ k : Nat, (k : Int) = 1 + st % 700 := ⟨(1 + st % 700).toNat, by omega⟩
  obtain ⟨kn, rfl⟩ := Int.eq_ofNat_of_zero_le hk0
  have hN1 : 4000 ≤ N := by omega
  have hN2 : N < 20000 := by omega
  have hsp : 0 < s := by omega
  have hs2 : s ≤ 700 := by omega
  have hkn : kn ≤ 65535 := by omega
  have HN := hid hN.symm
  have HSS := hid hs.symm
  clear hN hs
  go_enter Tryd.func9, Tryd.ntmps9
  go_wp2_with fail
  refine (awake4 _ hT).mono ?_
  rintro e w2 ⟨rfl, hBa⟩
  have q1 := hBa.size
  have eN := HN.out
  have eS := HSS.out
  go_wp2_with (first
    | (at_make
       go_must (refine wpList_make_full _ rfl (.tmp 25) (.tmp 25) _ rfl w2.heap.size 4 i0 (.bool false) 1 Tryd.underlying39 hi0 iz0 iz1 .i64 .i64 _ _ N rfl rfl rfl rfl (by rw [iz2]; omega) (by unfold maxLen; omega) (Nat.le_refl _) ?_)
       intro w3 hown3 hgr3))
  rw [made_bools4] at hown3
  have hB3 : Below w2.heap.size w2 w3 := (Below.refl _ _).grown hgr3 (Nat.le_refl _) (fun k hk => by cases hk)
  have hz3 := hB3.size
  clear eN eS
  go_wp2_with fail
  go_loopw [10] (fun i wr => ∃ (p : Nat) (L : List Bool), p ≤ N + 700 ∧ i = .int .i64 p ∧ Hid (p % s = 0) ∧ L.length = N ∧ Hid (∀ i, i < N → bitAt L i = decide (i % s = 0 ∧ i < p)) ∧ wr.ownsRow w2.heap.size 4 1 (.slice (some ⟨w2.heap.size, 0, none⟩) N N) N (bools L) ∧ Below w2.heap.size w2 wr) (fun i _ => 20700 - (intOf i).toNat)
  case atStart => exact ⟨0, List.replicate N false, by omega, rfl, hid (Nat.zero_mod _), by simp, hid (fun j hj => by
    have : decide (j % s = 0 ∧ j < 0) = false := by simp
    rw [this]; unfold bitAt; rw [List.getElem?_replicate, if_pos hj]; rfl), hown3, hB3⟩
  case round =>
    obtain ⟨p, L, hp, rfl, hpm, hL, hLb, hown, hB⟩ := hrel
    have hsz := hB.size
    clear hown3 hgr3
    rcases Nat.lt_or_ge p N with hlt | hge
    · have hki : (p : Int) < (N : Int) := by omega
      have cw : wr.cell? ⟨w2.heap.size, p, none⟩ = some (.bool (bitAt L p)) := by
        rw [hown.cellAt p (by omega)]; exact bools_get L (by omega)
      have fw := hown.frozenAt p
      have hst := hown.stored p (.bool true)
      rw [bools_set4] at hst
      have HL := hid (show ∀ i, i < N → bitAt (L.set p true) i = decide (i % s = 0 ∧ i < p + s) from fun i hi => by
        rw [bitAt_set4 L p _ i (by omega)]
        have hm := next_mult s p i hsp hpm.out
        by_cases e : i = p
        · subst e; rw [if_pos rfl, decide_eq_true (hm.2 (Or.inr rfl))]
        · rw [if_neg e, hLb.out i hi, Bool.eq_iff_iff, decide_eq_true_eq, decide_eq_true_eq, hm]
          constructor
          · intro h; exact Or.inl h
          · rintro (h | h)
            · exact h
            · exact absurd h e)
      have HPM := hid (show (p + s) % s = 0 by rw [Nat.add_mod_right]; exact hpm.out)
      clear hLb
      go_wp2
      go_roundw
      case rel => exact ⟨p + s, L.set p true, by omega, by go_num, HPM, by rw [List.length_set]; exact hL, HL, hst.1, hB.setCell (Nat.le_refl _) _⟩
      case measure => simp [intOf]; omega
    · have hLb2 : ∀ i, i < L.length → bitAt L i = decide (i % s = 0) := fun i hi => by
        rw [hLb.out i (by omega), Bool.eq_iff_iff, decide_eq_true_eq, decide_eq_true_eq]
        constructor
        · intro h; exact h.1
        · intro h; exact ⟨h, by omega⟩
      have hlo := own_lst hown
      obtain ⟨many, hmany⟩ : ∃ m, m = (N + s - 1) / s := ⟨_, rfl⟩
      have hmi : ((N : Int) + (s : Int) - 1) / (s : Int) = (many : Int) := by
        rw [hmany, show ((N : Int) + (s : Int) - 1) = ((N + s - 1 : Nat) : Int) from by omega]; rfl
      have hkm := kc_steps L s hsp hLb2 L.length (Nat.le_refl _)
      rw [hL, ← hmany] at hkm
      have HMC := hid (by have := made_any (some ⟨w2.heap.size, 0, none⟩) N L wr (by exact hlo) (by omega); rw [hL] at this; exact this)
      have hst := fun h => pl_steps L s kn hsp hLb2 h
      rw [hL, ← hmany] at hst
      have HST := hid hst
      have HKM := hid hkm
      have HMANY := hid hmany
      have hml : many ≤ 20700 := by rw [hmany]; exact Nat.le_trans (Nat.div_le_self _ _) (by omega)
      have HLN := hid hL
      clear hLb hown hst hkm hmany hL hLb2
      have hpi : ¬ ((p : Int) < (N : Int)) := by omega
      go_wp2_with fail
      refine HMC.out.mono ?_
      rintro e w4 ⟨g4, A4, c4, rfl, hr4, _, _, hB4⟩
      have hz4 := hB4.size
      go_wp2_with fail
      refine (chooseNew_any g4 A4 c4 L _ hr4).mono ?_
      rintro e w5 ⟨gc, gd, Ad, cd, A1, c1, l1, A0, c0, l0, rfl, hch, hB5, _⟩
      have hz5 := hB5.size
      have q0 : Below w.heap.size w w5 := (hBa.trans (hB.mono q1)).trans ((hB4.mono (by omega)).trans (hB5.mono (by omega)))
      have qz := q0.size
      have hT5 := hT.below q0
      have HO := hid (fun W hW => by have := chOnes_any gc gd g4 A4 c4 L Ad cd A1 c1 l1 A0 c0 l0 W hW; rw [HLN.out, HKM.out] at this; exact this)
      have HSZ := hid (fun W hW => by have := chSize_any gc gd g4 A4 c4 L Ad cd A1 c1 l1 A0 c0 l0 W hW; rw [HLN.out] at this; exact this)
      have k1 := hch.half1.1
      have k0 := hch.half0.1
      have kb := kc_both L
      have hsz4 : 128 * (N / 512 + 1) + 64 * (l1.length + l0.length) ≤ N / 2 + 512 := by have := HLN.out; rw [this] at k1 k0 kb; omega
      have hszi : ((128 * (N / 512 + 1) + 64 * (l1.length + l0.length) : Nat) : Int) ≤ (N : Int) / 2 + 512 := by omega
      generalize 128 * (N / 512 + 1) + 64 * (l1.length + l0.length) = sz at *
      clear k1 k0 kb hsz4
      by_cases hkl : kn < many
      · obtain ⟨t1, t2, t3⟩ := HST.out hkl
        have hksi : (kn : Int) * (s : Int) = ((kn * s : Nat) : Int) := by simp
        have H1 := hid (fun W hW hTW => chOne_at gc gd g4 A4 c4 L Ad cd A1 c1 l1 A0 c0 l0 kn (kn * s) W hW hTW (by rw [HLN.out]; exact t1) t2 t3)
        have hki : ¬ (many : Int) ≤ (kn : Int) := by omega
        clear t2 t3
        generalize kn * s = ks at *
        go_wp2_with fail
        refine (H1.out _ hch hT5).mono ?_
        rintro e w6 ⟨rfl, hB6⟩
        have hch6 := hch.below hB6
        go_wp2_with fail
        refine (HO.out _ hch6).mono ?_
        rintro e w' ⟨rfl, rfl⟩
        go_wp2_with fail
        refine (HSZ.out _ hch6).mono ?_
        rintro e w' ⟨rfl, m7, rfl⟩
        go_wp2
        go_ret
        exact ⟨by first | rfl | go_num, below_drewN (q0.trans (hB6.mono qz)) _⟩
      · have hki : (many : Int) ≤ (kn : Int) := by omega
        have H1 := hid (fun W hW => chOne_none gc gd g4 A4 c4 L Ad cd A1 c1 l1 A0 c0 l0 kn W hW (Or.inr (by rw [HLN.out, HKM.out]; omega)))
        go_wp2_with fail
        refine (H1.out _ hch).mono ?_
        rintro e w' ⟨rfl, rfl⟩
        go_wp2_with fail
        refine (HO.out _ hch).mono ?_
        rintro e w' ⟨rfl, rfl⟩
        go_wp2
        go_ret
        exact ⟨by first | rfl | go_num, q0⟩

end Go.Proofs.YtdhokioiloggeaaDoor
