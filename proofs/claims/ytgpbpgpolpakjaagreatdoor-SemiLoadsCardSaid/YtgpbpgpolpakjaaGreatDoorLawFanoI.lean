/- Walks: Is: are bytes a sequence's. -/
import Derived.Test.YtgpbpgpolpakjaaGreatDoorFanoR
import Derived.Test.YtgpbpgpolpakjaaGreatDoorBitsQ
import Derived.Test.YtgpbpgpolpakjaaGreatDoorLawFanoP
set_option linter.unusedVariables false
set_option linter.unusedSimpArgs false
set_option maxRecDepth 100000
namespace Go.Proofs.YtgpbpgpolpakjaaGreatDoor
open Go.RowKit Go.Shelf L

/-- What Is leaves. -/
def IsPost (l : List UInt8) (w : World) (e : Ending) (w' : World) : Prop :=
  ∃ ok, e = .returned (.bool ok) ∧ Below w.heap.size w w' ∧ (ok = true ↔ (goodL l ∧ ∃ m B, IsSeq (bitsL l (valL l)) m B))
theorem L.count_take_le (h : List Bool) (j : Nat) (b : Bool) : (h.take j).count b ≤ h.count b := (List.take_sublist j h).count_le b
theorem L.gl_lt (W : Nat) (lo : List Bool) : ∀ (hi : List Bool) (k p : Nat), ∀ y ∈ gl W lo k p hi, y < (p + hi.count false + 1) * 2 ^ W
  | [], k, p, y, h => by simp [gl] at h
  | false :: h, k, p, y, hy => by
    simp only [gl] at hy
    have := gl_lt W lo h k (p + 1) y hy
    rw [show p + (false :: h).count false + 1 = p + 1 + h.count false + 1 by simp [List.count_cons]; omega]; exact this
  | true :: h, k, p, y, hy => by
    simp only [gl, List.mem_cons] at hy
    rw [show p + (true :: h).count false + 1 = p + h.count false + 1 by simp [List.count_cons]]
    rcases hy with rfl | hy
    · have h1 := fld_lt lo (k * W) W
      have h2 : (p + 1) * 2 ^ W ≤ (p + h.count false + 1) * 2 ^ W := Nat.mul_le_mul_right _ (by omega)
      rw [Nat.succ_mul] at h2
      omega
    · exact gl_lt W lo h (k + 1) p y hy

set_option maxHeartbeats 4000000 in
theorem isSeq_any (t : ByteArray) (w : World) (hs : t.size ≤ 1100) :
    Calls Tryz.prog 14 #[.string t] w (IsPost t.data.toList w) := by
  have HOF := hid (refOf_any t w (by omega))
  generalize hll : t.data.toList = l at *
  have HF := hid (show ∀ e w', Below w.heap.size w w' → e = .returned (.bool false) → (goodL l → ∀ m B, ¬ IsSeq (bitsL l (valL l)) m B) → IsPost l w e w' from fun e w' h1 h2 h3 => ⟨false, h2, h1, ⟨fun h => (by cases h), fun h => by obtain ⟨g, m, B, q⟩ := h; exact absurd q (h3 g m B)⟩⟩)
  have HP := hid (show ∀ e w' ok, goodL l → Below w.heap.size w w' → e = .returned (.bool ok) → (ok = true ↔ ∃ m B, IsSeq (bitsL l (valL l)) m B) → IsPost l w e w' from fun e w' ok h0 h1 h2 h3 => ⟨ok, h2, h1, ⟨fun h => ⟨h0, h3.1 h⟩, fun h => h3.2 h.2⟩⟩)
  have hlen : l.length = t.size := by rw [← hll, Array.length_toList]; rfl
  clear hll
  go_enter Tryz.func14, Tryz.ntmps14
  go_wp2_with fail
  refine (HOF.out).mono ?_
  rintro e w1 ⟨hB1, ⟨hgood, A, c, rfl, hx⟩ | ⟨hbad, u, rfl⟩⟩
  case inr =>
    go_wp2_with fail
    go_ret
    exact HF.out _ _ hB1 rfl (fun h => absurd h hbad)
  have hz1 := hB1.size
  have hxl : (bitsL l (valL l)).length ≤ 8704 := by
    rw [bitsL_length]
    have := hgood.2.2.1
    unfold nwords at this
    omega
  have HGD := hid hgood
  clear HOF hgood hlen
  obtain ⟨x, hxe⟩ : ∃ x, x = bitsL l (valL l) := ⟨_, rfl⟩
  rw [← hxe] at HF HP hx hxl ⊢
  clear hxe
  by_cases h65 : x.length < 65
  · have HN := hid (show ∀ m B, ¬ IsSeq x m B from fun m B h => by have := h.parts.2.2.1; generalize (B - 1) / 2 ^ wd m.length B = q at this; generalize m.length * wd m.length B = r at this; omega)
    have j0 : decide ((x.length : Int) < 65) = true := decide_eq_true (by omega)
    go_wp2_with fail
    go_ret
    exact HF.out _ _ hB1 rfl (fun _ => HN.out)
  have j0 : decide ((x.length : Int) < 65) = false := decide_eq_false (by omega)
  have j0N : ¬ x.length < 65 := h65
  have HR1 := hid (fun W (h : Lst W A (bools x)) => refField_any A c x 0 24 W h (by omega) (by omega) (by omega))
  have HR2 := hid (fun W (h : Lst W A (bools x)) => refField_any A c x 24 41 W h (by omega) (by omega) (by omega))
  obtain ⟨n, hn⟩ : ∃ n, fld x 0 24 = n := ⟨_, rfl⟩
  obtain ⟨B, hB⟩ : ∃ B, fld x 24 41 = B := ⟨_, rfl⟩
  have hn24 : n < 16777216 := by rw [← hn]; exact fld_lt _ _ _
  have hB41 : B < 2199023255552 := by rw [← hB]; exact fld_lt _ _ _
  rw [hn] at HR1
  rw [hB] at HR2
  have HNB := hid (show ∀ m C, IsSeq x m C → m.length = n ∧ C = B ∧ RightN m C from fun m C h => ⟨h.parts.1.symm.trans hn, h.parts.2.1.symm.trans hB, h.1⟩)
  have hnw : IntKind.i64.wrap (n : Int) = (n : Int) := by rw [IntKind.wrap_i64]; omega
  have hBw : IntKind.i64.wrap (B : Int) = (B : Int) := by rw [IntKind.wrap_i64]; omega
  go_wp2_with fail
  refine (HR1.out _ hx).mono ?_
  rintro e w' ⟨rfl, rfl⟩
  go_wp2_with fail
  refine (HR2.out _ hx).mono ?_
  rintro e w' ⟨rfl, rfl⟩
  clear HR1 HR2
  by_cases hb1 : B < 1
  · have j1 : decide ((B : Int) < 1) = true := decide_eq_true (by omega)
    have HN := hid (show ∀ m C, ¬ IsSeq x m C from fun m C h => by have := HNB.out m C h; have := this.2.2.1; omega)
    clear hB
    obtain rfl : B = 0 := by omega
    go_wp2_with fail
    go_ret
    exact HF.out _ _ hB1 rfl (fun _ => HN.out)
  have j1 : decide ((B : Int) < 1) = false := decide_eq_false (by omega)
  have j1N : ¬ B = 0 := by omega
  have j1M : ¬ B < 1 := by omega
  by_cases hb2 : 1099511627776 < B
  · have j2 : decide ((B : Int) > 1099511627776) = true := decide_eq_true (by omega)
    have HN := hid (show ∀ m C, ¬ IsSeq x m C from fun m C h => by have := HNB.out m C h; have := this.2.2.1; omega)
    go_wp2_with fail
    go_ret
    exact HF.out _ _ hB1 rfl (fun _ => HN.out)
  have j2 : decide ((B : Int) > 1099511627776) = false := decide_eq_false (by omega)
  have j2N : ¬ 1099511627776 < B := hb2
  have HPS := hid (fun m C (h : IsSeq x m C) => show x.length = 65 + n * wd n B + (n + ((B - 1) / 2 ^ wd n B + 1)) ∧ (x.drop (65 + n * wd n B)).count true = n ∧ m = told x n B ∧ RightN m B from by
    have p := h.parts
    have q := HNB.out m C h
    obtain ⟨q1, rfl, q3⟩ := q
    rw [q1] at p
    exact ⟨p.2.2.1, p.2.2.2.1, p.2.2.2.2, q3⟩)
  have HPR := hid (fun hl hc => told_props hn hB hl hc)
  by_cases hb3 : x.length < n
  · have j3 : decide ((n : Int) > (x.length : Int)) = true := decide_eq_true (by omega)
    have HN := hid (show ∀ m C, ¬ IsSeq x m C from fun m C h => by have := (HPS.out m C h).1; generalize (B - 1) / 2 ^ wd n B = q at this; generalize n * wd n B = r at this; omega)
    clear hn hB
    go_wp2_with fail
    go_ret
    exact HF.out _ _ hB1 rfl (fun _ => HN.out)
  have j3 : decide ((n : Int) > (x.length : Int)) = false := decide_eq_false (by omega)
  have j3N : ¬ x.length < n := hb3
  have HWD := hid (fun W => by have := refWidth_any n (B : Nat) W (by omega) (by omega); rw [show ((B : Nat) : Int).toNat = B from Int.toNat_natCast B] at this; exact this)
  have hwd := wd_le n B (by omega)
  have hqB : (B - 1) / 2 ^ wd n B ≤ 1099511627776 := Nat.le_trans (Nat.div_le_self _ _) (by omega)
  have hMn : n * wd n B ≤ 8704 * 40 := Nat.mul_le_mul (by omega) hwd
  obtain ⟨M, hM⟩ : ∃ M, n * wd n B = M := ⟨_, rfl⟩
  obtain ⟨q, hq⟩ : ∃ q, (B - 1) / 2 ^ wd n B = q := ⟨_, rfl⟩
  have hMI : (n : Int) * (wd n B : Int) = (M : Int) := by rw [← hM]; norm_cast
  have hqI : ((B : Int) - 1) / 2 ^ wd n B = (q : Int) := by
    rw [← hq]
    have : (B : Int) - 1 = ((B - 1 : Nat) : Int) := by omega
    rw [this]; norm_cast
  have HTD := hid (show told x n B = gl (wd n B) ((x.drop 65).take M) 0 0 (x.drop (65 + M)) by unfold told; rw [hM])
  rw [hM, hq] at HPR HPS
  rw [hq] at hqB
  rw [hM] at hMn
  have HMW := hid hM
  clear hM hq hn hB HNB
  generalize hTL : told x n B = tl at *
  clear hTL
  generalize wd n B = W at *
  have hm64 : min W 64 = W := by omega
  have hW0 : (0 : Int) ≤ (W : Int) := by omega
  have hMw : IntKind.i64.wrap (M : Int) = (M : Int) := by rw [IntKind.wrap_i64]; omega
  have hB1w : IntKind.i64.wrap ((B : Int) - 1) = (B : Int) - 1 := by rw [IntKind.wrap_i64]; omega
  go_wp2_with fail
  (with_reducible refine (HWD.out _).mono ?_)
  rintro e w' ⟨rfl, rfl⟩
  by_cases hb4 : x.length < q
  · have j4 : decide ((q : Int) > (x.length : Int)) = true := decide_eq_true (by omega)
    have HN := hid (show ∀ m C, ¬ IsSeq x m C from fun m C h => by have := (HPS.out m C h).1; omega)
    go_wp2_with fail
    go_ret
    exact HF.out _ _ hB1 rfl (fun _ => HN.out)
  have j4 : decide ((q : Int) > (x.length : Int)) = false := decide_eq_false (by omega)
  have j4N : ¬ x.length < q := hb4
  obtain ⟨K, hK⟩ : ∃ K, K = 65 + M := ⟨_, rfl⟩
  obtain ⟨K2, hK2⟩ : ∃ K2, K2 = K + n := ⟨_, rfl⟩
  obtain ⟨K3, hK3⟩ : ∃ K3, K3 = K2 + q := ⟨_, rfl⟩
  obtain ⟨K4, hK4⟩ : ∃ K4, K4 = K3 + 1 := ⟨_, rfl⟩
  have w1' : IntKind.i64.wrap (65 + (M : Int)) = (K : Int) := by rw [IntKind.wrap_i64]; omega
  have w2' : IntKind.i64.wrap ((K : Int) + (n : Int)) = (K2 : Int) := by rw [IntKind.wrap_i64]; omega
  have w3' : IntKind.i64.wrap ((K2 : Int) + (q : Int)) = (K3 : Int) := by rw [IntKind.wrap_i64]; omega
  have w4' : IntKind.i64.wrap ((K3 : Int) + 1) = (K4 : Int) := by rw [IntKind.wrap_i64]; omega
  have HKE := hid (show K = 65 + M ∧ K4 = 65 + M + (n + (q + 1)) by omega)
  have hKb : K ≤ 400000 := by omega
  rw [← hK] at HPR HPS HTD
  have HPS2 := hid (show ∀ m C, IsSeq x m C → x.length = K4 ∧ (x.drop K).count true = n ∧ m = tl ∧ RightN m B from fun m C h => by have p := HPS.out m C h; have := HKE.out; exact ⟨by omega, p.2⟩)
  have HPR2 := hid (show x.length = K4 → (x.drop K).count true = n → _ from fun h1 h2 => HPR.out (by have := HKE.out; omega) h2)
  clear hK hK2 hK3 hK4 HPS HPR
  by_cases hne : x.length ≠ K4
  · have j5 : decide ((x.length : Int) = (K4 : Int)) = false := decide_eq_false (by omega)
    have j5b : ((x.length : Int) != (K4 : Int)) = true := by rw [bne_iff_ne]; omega
    have HN := hid (show ∀ m C, ¬ IsSeq x m C from fun m C h => hne (HPS2.out m C h).1)
    go_wp2_with fail
    go_ret
    exact HF.out _ _ hB1 rfl (fun _ => HN.out)
  have HXK := hid (Classical.byContradiction hne : x.length = K4)
  have j5 : ((x.length : Int) != (K4 : Int)) = false := by rw [bne_eq_false_iff_eq, HXK.out]
  have j5b : decide ((x.length : Int) = (K4 : Int)) = true := decide_eq_true (by rw [HXK.out])
  obtain ⟨T, hT⟩ : ∃ T, T = n + (q + 1) := ⟨_, rfl⟩
  have HTE := hid (show x.length = K + T by have := HXK.out; have := HKE.out; omega)
  have hTb : T ≤ 8704 := by have := HTE.out; omega
  have HHL := hid (show (x.drop K).length = T by rw [List.length_drop]; have := HTE.out; omega)
  clear hT hne
  obtain ⟨i0, hi0, iz0, iz1, iz2⟩ := info_parts Tryz.infoInt
  go_wp2_with fail
  go_loopw [8, 9, 10] (fun lv pv iv wr => ∃ (j : Nat) (A1 : Option Addr) (c1 : Nat), j ≤ T ∧ iv = .int .i64 (K + j : Nat) ∧ pv = .int .i64 (((x.drop K).take j).count false : Nat) ∧ ((x.drop K).take j).count true ≤ n ∧ lv = .slice A1 (((x.drop K).take j).count true) c1 ∧
    wr.ownsRow w1.heap.size 3 1 (.slice A1 (((x.drop K).take j).count true) c1) (((x.drop K).take j).count true) (natCells (gl W ((x.drop 65).take M) 0 0 ((x.drop K).take j))) ∧ Below w1.heap.size w1 wr) (fun _ _ iv _ => K + T - (intOf iv).toNat)
  case atStart => exact ⟨0, none, 0, by omega, by go_num, rfl, by simp, rfl, World.ownsRow_nil _ _ _ _, Below.refl _ _⟩
  case round =>
    obtain ⟨j, A1, c1, hj, rfl, rfl, hcn, rfl, hown, hBr⟩ := hrel
    have hsz := hBr.size
    have hBw := hB1.trans (hBr.mono hz1)
    have hxr := hx.below hBr
    rcases Nat.lt_or_ge j T with hlt | hge
    · obtain ⟨i, hi⟩ : ∃ i, i = K + j := ⟨_, rfl⟩
      rw [← hi]
      have HIE := hid hi
      have hix : i < x.length := by have := HTE.out; omega
      have hii : (i : Int) < (x.length : Int) := by omega
      have hi00 : (0 : Int) ≤ (i : Int) := by omega
      have hiw := wrap_one i (by omega)
      obtain ⟨ab, ao, rfl, had, hcl⟩ := hxr.lit (by rw [bools_length]; omega)
      have k0 := hcl i (.bool x[i]) (by unfold bools; rw [List.getElem?_map, List.getElem?_eq_getElem hix]; rfl)
      have htk : (x.drop K).take (j + 1) = (x.drop K).take j ++ [x[i]] := by
        rw [List.take_succ_eq_append_getElem (by rw [HHL.out]; exact hlt)]
        congr 2
        rw [List.getElem_drop]
        simp only [hi]
      clear hi
      have HCT := hid (show (x.drop K).count true = ((x.drop K).take (j + 1)).count true + ((x.drop K).drop (j + 1)).count true by rw [← List.count_append, List.take_append_drop])
      have hGS := gl_snoc W ((x.drop 65).take M) x[i] ((x.drop K).take j) 0 0
      rw [← htk] at hGS
      rw [htk] at HCT
      have hcf : ((x.drop K).take j).count false ≤ 8704 := Nat.le_trans (List.count_le_length) (by rw [List.length_take, HHL.out]; omega)
      have hc1 := fun b => List.count_append (l₁ := (x.drop K).take j) (l₂ := [x[i]]) (a := b)
      rw [← htk] at hc1
      have hct := hc1 true
      have hcf2 := hc1 false
      clear hcl hc1
      generalize hb : x[i] = b at *
      cases b with
      | false =>
        clear HCT
        have HR := hid (show ((x.drop K).take (j + 1)).count true = ((x.drop K).take j).count true ∧ ((x.drop K).take (j + 1)).count false = ((x.drop K).take j).count false + 1 ∧ gl W ((x.drop 65).take M) 0 0 ((x.drop K).take (j + 1)) = gl W ((x.drop 65).take M) 0 0 ((x.drop K).take j) from ⟨by rw [hct]; rfl, by rw [hcf2]; rfl, by rw [hGS]; simp⟩)
        clear hct hcf2 hGS htk hb
        generalize ((x.drop K).take j).count true = ct at *
        generalize ((x.drop K).take j).count false = cf at *
        generalize gl W ((x.drop 65).take M) 0 0 ((x.drop K).take j) = g1 at *
        have hcfw := wrap_one cf (by omega)
        go_wp2_with fail
        go_roundw
        case rel => exact ⟨j + 1, A1, c1, by omega, by rw [← Nat.add_assoc, ← HIE.out]; go_num, by rw [HR.out.2.1]; go_num, by rw [HR.out.1]; exact hcn, by rw [HR.out.1], by rw [HR.out.1, HR.out.2.2]; exact hown, hBr⟩
        case measure => have := HIE.out; simp [intOf]; omega
      | true =>
        have hct1 : ((x.drop K).take j ++ [true]).count true = ((x.drop K).take j).count true + 1 := by rw [List.count_append]; rfl
        rw [hct1] at HCT
        clear hct1
        by_cases hfull : ((x.drop K).take j).count true = n
        · have HN := hid (show ∀ m C, ¬ IsSeq x m C from fun m C h => by have := (HPS2.out m C h).2.1; have := HCT.out; omega)
          clear hct hcf2 hGS htk hb HCT hcn
          generalize ((x.drop K).take j).count false = cf at *
          generalize gl W ((x.drop 65).take M) 0 0 ((x.drop K).take j) = g1 at *
          rw [hfull] at hown ⊢
          clear hfull
          have heq : ((n : Int) == (n : Int)) = true := beq_self_eq_true _
          go_wp2_with fail
          go_ret
          exact HF.out _ _ hBw rfl (fun _ => HN.out)
        · have HR := hid (show ((x.drop K).take (j + 1)).count true = ((x.drop K).take j).count true + 1 ∧ ((x.drop K).take (j + 1)).count false = ((x.drop K).take j).count false ∧ gl W ((x.drop 65).take M) 0 0 ((x.drop K).take (j + 1)) = gl W ((x.drop 65).take M) 0 0 ((x.drop K).take j) ++ [((x.drop K).take j).count false * 2 ^ W + fld ((x.drop 65).take M) (((x.drop K).take j).count true * W) W] from ⟨by rw [hct]; rfl, by rw [hcf2]; rfl, by rw [hGS]; simp⟩)
          have hkn : ((x.drop K).take j).count true < n := by omega
          clear hct hcf2 hGS htk hb HCT hcn hfull
          generalize ((x.drop K).take j).count true = ct at *
          generalize ((x.drop K).take j).count false = cf at *
          generalize gl W ((x.drop 65).take M) 0 0 ((x.drop K).take j) = g1 at *
          have hne2 : ((ct : Int) == (n : Int)) = false := by rw [beq_eq_false_iff_ne]; omega
          have hcin : ct * W + W ≤ M := by
            rw [← HMW.out, ← Nat.succ_mul]; exact Nat.mul_le_mul_right _ hkn
          rw [fld_inner x 65 M (ct * W) W hcin] at HR
          have hcWI : (ct : Int) * (W : Int) = ((ct * W : Nat) : Int) := by norm_cast
          have HRF := hid (fun W' (h : Lst W' (some ⟨ab, ao, none⟩) (bools x)) => refField_any (some ⟨ab, ao, none⟩) c x (65 + ct * W) W W' h (by omega) (by have := HTE.out; have := HKE.out; omega) (by omega))
          have hrlt := fld_lt x (65 + ct * W) W
          generalize ct * W = cw at *
          obtain ⟨pf, hpf⟩ : ∃ pf, pf = 65 + cw := ⟨_, rfl⟩
          rw [← hpf] at HRF HR hrlt
          have hpfw : IntKind.i64.wrap (65 + (cw : Int)) = (pf : Int) := by rw [IntKind.wrap_i64]; omega
          have hcww : IntKind.i64.wrap (cw : Int) = (cw : Int) := by rw [IntKind.wrap_i64]; omega
          generalize hr : fld x pf W = r at *
          have hX : (cf : Int) * 2 ^ W = ((cf * 2 ^ W : Nat) : Int) := by norm_cast
          have hXb : cf * 2 ^ W ≤ 8704 * 2 ^ 40 := Nat.mul_le_mul hcf (Nat.pow_le_pow_right (by omega) hwd)
          have hjoin : cf * 2 ^ W ||| r = cf * 2 ^ W + r := nat_join W _ _ (Nat.mul_mod_left _ _) hrlt
          have hr41 : r < 2 ^ 40 := Nat.lt_of_lt_of_le hrlt (Nat.pow_le_pow_right (by omega) hwd)
          generalize cf * 2 ^ W = X at *
          clear hr hrlt hpf hcin
          have hor : bits BinOp.or IntKind.i64 (X : Int) (r : Int) = ((X + r : Nat) : Int) := by rw [i64_or_nat X r (by omega) (by omega), hjoin]
          have hXw : IntKind.i64.wrap (X : Int) = (X : Int) := by rw [IntKind.wrap_i64]; omega
          have hrw : IntKind.i64.wrap (r : Int) = (r : Int) := by rw [IntKind.wrap_i64]; omega
          obtain ⟨Y, hY⟩ : ∃ Y, Y = X + r := ⟨_, rfl⟩
          rw [← hY] at hor HR
          clear hjoin hY
          go_wp2_with fail
          go_region_law? (first
            | (refine step_call (o := ⟨some 100, _, _, _, _, _⟩) rfl 42 #[.slice (some ⟨ab, ao, none⟩) x.length c, .int .i64 (pf : Nat), .int .i64 (W : Nat)] (by go_simp) ?_; refine (HRF.out _ (by exact hxr)).mono ?_; rintro e w' ⟨rfl, rfl⟩; refine ⟨_, rfl, ?_⟩)
            | (refine step_append_more _ rfl (.tmp 89) (.tmp 103) _ rfl w1.heap.size 3 i0 _ 8 Tryz.underlying52 hi0 iz0 iz1 iz2 rfl (.slice A1 ct c1) ct (natCells g1) (by rfl) (by exact hown.alloc _) (some ⟨wr.heap.size, 0, none⟩) 1 1 [.int .i64 (Y : Nat)] (by rfl) (by exact lst_one _ _ _ _ (by simp)) rfl (by simp [Value.oneCell']) (by simp only [maxLen]; omega) (by omega) (by simp; omega) (wr.heap.size + 1) (by simp) ?_;
               intro A2 c2 w2 hown2 hgr2 hat2))
          all_goals
            have hB2 : Below w1.heap.size w1 w2 := ((hBr.alloc hsz (.cells #[.int .i64 (Y : Nat)] 3)).drew.grown hgr2 (by simp; omega) (fun j hj => (hown.lt j hj).1))
            go_wp2_with fail
            go_roundw
            case rel => exact ⟨j + 1, A2, c2, by omega, by rw [← Nat.add_assoc, ← HIE.out]; go_num, by rw [HR.out.2.1], by rw [HR.out.1]; omega, by rw [HR.out.1], by rw [HR.out.1, HR.out.2.2, natCells_append]; exact hown2, hB2⟩
            case measure => have := HIE.out; simp [intOf]; omega
    · obtain rfl : j = T := by omega
      have htA : (x.drop K).take j = x.drop K := List.take_of_length_le (by rw [HHL.out]; exact Nat.le_refl _)
      rw [htA] at hown hcn ⊢
      obtain ⟨i, hi⟩ : ∃ i, i = K + j := ⟨_, rfl⟩
      rw [← hi]
      have hixN : ¬ ((i : Int) < (x.length : Int)) := by have := HTE.out; omega
      clear hi
      rw [← HTD.out] at hown
      by_cases hcnt : (x.drop K).count true = n
      · have hpr := HPR2.out HXK.out hcnt
        have htl := hpr.1
        have HISQ := hid hpr.2.2.2.2.2
        rw [hcnt] at hown ⊢
        have HR := hid (refRight_any A1 c1 (tl.map (fun x : Nat => (x : Int))) (B : Nat) wr (by rw [ints_nat]; exact own_lst hown) (by rw [List.length_map]; omega))
        rw [List.length_map, htl] at HR
        have heq : ((n : Int) == (n : Int)) = true := beq_self_eq_true _
        clear hcnt hpr hcn htA
        go_wp2_with fail
        refine (HR.out).mono ?_
        rintro e w2 ⟨ok, m, rfl, rfl, hok⟩
        have HOK := hid hok
        clear hok
        go_wp2_with fail
        go_ret
        refine HP.out _ _ ok HGD.out (below_drewN hBw _) (by first | rfl | simp) ?_
        rw [HOK.out]
        constructor
        · intro hz
          obtain ⟨l', b', e1, e2, h3, _⟩ := rightZ_nat hz
          have e3 : B = b' := by omega
          subst e3
          rw [← nat_map_inj e2] at h3
          exact ⟨_, _, HISQ.out h3⟩
        · rintro ⟨m', C, hm⟩
          obtain ⟨_, _, rfl, h4⟩ := HPS2.out m' C hm
          exact h4.z (by omega)
      · have HN := hid (show ∀ m C, ¬ IsSeq x m C from fun m C h => hcnt (HPS2.out m C h).2.1)
        generalize hct : (x.drop K).count true = ct at *
        have hne2 : ((ct : Int) == (n : Int)) = false := by rw [beq_eq_false_iff_ne]; omega
        clear hct
        go_wp2_with fail
        go_ret
        exact HF.out _ _ hBw rfl (fun _ => HN.out)
end Go.Proofs.YtgpbpgpolpakjaaGreatDoor
