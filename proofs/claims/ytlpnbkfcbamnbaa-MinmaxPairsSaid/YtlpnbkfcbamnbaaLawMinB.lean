/- Walks: the law MinmaxFinds returns true. -/
import Derived.Test.YtlpnbkfcbamnbaaLawMinA
import Derived.Test.YtlpnbkfcbamnbaaParenP
import Derived.Test.YtlpnbkfcbamnbaaBitsP
import Derived.Test.YtlpnbkfcbamnbaaMathU
set_option linter.unusedVariables false
set_option linter.unusedSimpArgs false
set_option maxRecDepth 100000
namespace Go.Proofs.Ytlpnbkfcbamnbaa
open Go.RowKit L

theorem qmore {P : Program} {f : FuncId} {args : Array Value} {w : World} {v : Value} {n : Nat} (h : Calls P f args (w.drewN n) fun e w' => e = .returned v ∧ ∃ m, w' = (w.drewN n).drewN m) :
    Calls P f args (w.drewN n) fun e w'' => e = .returned v ∧ ∃ m, w'' = w.drewN m := h.mono fun _ _ ⟨he, m, hw⟩ => ⟨he, n + m, by rw [hw, World.drewN_drewN]⟩
theorem lst_4 {w : World} {g : Nat} {T : TypeId} {x y z u : Value} (h : BlkIs w g T #[x, y, z, u]) : Lst w (some ⟨g, 0, none⟩) [x, y, z, u] := fun i u hi => ⟨_, rfl, by
  rw [add_zero_, h.cell i]; simpa using hi⟩

set_option maxHeartbeats 1000000 in
theorem awake7 (w : World) : Calls Try.prog 8 #[] w fun e w' => e = .returned (.bool true) ∧ Below w.heap.size w w' := by
  have hB0 := (Below.refl w.heap.size w).alloc (Nat.le_refl _) (.cells #[.bool true, .bool true, .bool false, .bool false] 4)
  have hz0 := hB0.size
  have hl : Lst (w.alloc (.cells #[.bool true, .bool true, .bool false, .bool false] 4)) (some ⟨w.heap.size, 0, none⟩) (bools [true, true, false, false]) := lst_4 (BlkIs.new _ _ _)
  have e1 : forthN (bitAt [true, true, false, false]) (held 4 0) 4 0 = 3 := by decide
  have e2 : eb (bitAt [true, true, false, false]) 0 (held 4 3) = 1 := by decide
  have HFO := hid (fun g gl gx A c h W (t : TreeAt W g gl gx A c [true, true, false, false] h) => show Calls Try.prog 12 #[.pointer (some ⟨g, 0, none⟩), .int .i64 0, .int .i64 0] W fun e w' => e = .returned (.int .i64 3) ∧ ∃ m, w' = W.drewN m from by
    have := mmForth_any g gl gx A c [true, true, false, false] h 0 0 W t (by omega) (by omega)
    rwa [show ([true, true, false, false] : List Bool).length = 4 from rfl, e1] at this)
  have HEX := hid (fun g gl gx A c h W (t : TreeAt W g gl gx A c [true, true, false, false] h) => show Calls Try.prog 13 #[.pointer (some ⟨g, 0, none⟩), .int .i64 3] W fun e w' => e = .returned (.int .i64 1) ∧ ∃ m, w' = W.drewN m from by
    have := mmExcess_any g gl gx A c [true, true, false, false] h 3 W t
    rwa [show ([true, true, false, false] : List Bool).length = 4 from rfl, e2] at this)
  clear e1 e2
  go_enter Try.func8, Try.ntmps8
  go_wp2_with fail
  refine (made_any (some ⟨w.heap.size, 0, none⟩) 4 [true, true, false, false] _ hl (by decide)).mono ?_
  rintro e w1 ⟨g1, A1, c1, rfl, hr1, _, _, hB1⟩
  have hBa := hB0.trans (hB1.mono hz0)
  have hza := hBa.size
  go_wp2_with fail
  refine (mmNew_any g1 A1 c1 _ w1 hr1).mono ?_
  rintro e w2 ⟨gl, h, rfl, ht, hB2⟩
  have hBb := hBa.trans (hB2.mono hza)
  go_wp2_with fail
  refine (HFO.out _ _ _ _ _ _ _ ht).mono ?_
  rintro e w3 ⟨rfl, m3, rfl⟩
  go_wp2_with fail
  refine (HEX.out _ _ _ _ _ _ _ (by exact ht)).mono ?_
  rintro e w3 ⟨rfl, m4, rfl⟩
  go_wp2_with fail
  go_ret
  exact ⟨by first | rfl | simp, below_drewN hBb _⟩

theorem refForth7_any (A : Option Addr) (c : Nat) (bs : List Bool) (i d : Int) (w : World) (hl : Lst w A (bools bs)) (hs : bs.length ≤ 4294967296) :
    Calls Try.prog 16 #[.slice A bs.length c, .int .i64 i, .int .i64 d] w fun e w' => e = .returned (.int .i64 (forthN (bitAt bs) (held bs.length i) bs.length d)) ∧ w = w' := by
  have h := refForth_any A c bs i (bs.length : Nat) d w hl hs
  have hh := held_le bs.length i
  rw [show heldTo bs.length i (bs.length : Nat) = bs.length by unfold heldTo; omega] at h
  generalize forthN (bitAt bs) (held bs.length i) bs.length d = r at *
  go_enter Try.func16, Try.ntmps16
  go_wp2_with fail
  refine h.mono ?_
  rintro e w' ⟨rfl, rfl⟩
  go_wp2_with fail
  go_ret
  exact ⟨rfl, rfl⟩
theorem refBack7_any (A : Option Addr) (c : Nat) (bs : List Bool) (i d : Int) (w : World) (hl : Lst w A (bools bs)) (hs : bs.length ≤ 4294967296) :
    Calls Try.prog 17 #[.slice A bs.length c, .int .i64 i, .int .i64 d] w fun e w' => e = .returned (.int .i64 (backN (bitAt bs) 0 (held bs.length i) d)) ∧ w = w' := by
  have h := refBack_any A c bs 0 i d w hl hs
  rw [show held bs.length 0 = 0 by unfold held; omega, show heldTo bs.length 0 i = held bs.length i by unfold heldTo held; omega] at h
  generalize backN (bitAt bs) 0 (held bs.length i) d = r at *
  go_enter Try.func17, Try.ntmps17
  go_wp2_with fail
  refine h.mono ?_
  rintro e w' ⟨rfl, rfl⟩
  go_wp2_with fail
  go_ret
  exact ⟨rfl, rfl⟩
theorem refExcess7 (A : Option Addr) (c : Nat) (bs : List Bool) (i : Int) (w : World) (hl : Lst w A (bools bs)) (hs : bs.length ≤ 4294967296) :
    Calls Try.prog 18 #[.slice A bs.length c, .int .i64 0, .int .i64 i] w fun e w' => e = .returned (.int .i64 (eb (bitAt bs) 0 (held bs.length i))) ∧ w = w' := by
  have h := refExcess_any A c bs 0 i w hl hs
  rw [show held bs.length 0 = 0 by unfold held; omega, show heldTo bs.length 0 i = held bs.length i by unfold heldTo held; omega] at h
  exact h
theorem mmRow_any (g gl gx : Nat) (A : Option Addr) (c : Nat) (bs : List Bool) (h : Nat) (w : World) (t : TreeAt w g gl gx A c bs h) :
    Calls Try.prog 21 #[.pointer (some ⟨g, 0, none⟩)] w fun e w' => e = .returned (.pointer (some ⟨gx, 0, none⟩)) ∧ w = w' := by
  have k0 : w.cell? ⟨g, 0, none⟩ = some (.pointer (some ⟨gx, 0, none⟩)) := t.blk.cell 0
  clear t
  go_enter Try.func21, Try.ntmps21
  go_wp2_with fail
  go_ret
  exact ⟨rfl, rfl⟩

/-- The cells of pairs of ints. -/
def paCells (l : List (Int × Int)) : List Value := l.flatMap fun o => [.int .i64 o.1, .int .i64 o.2]
theorem paCells_get : ∀ (l : List (Int × Int)) (k : Nat) (h : k < l.length), (paCells l)[k * 2]? = some (.int .i64 l[k].1) ∧ (paCells l)[k * 2 + 1]? = some (.int .i64 l[k].2)
  | o :: l, 0, _ => by simp [paCells]
  | o :: l, k + 1, h => by
    have ih := paCells_get l k (by simpa using h)
    rw [show (k + 1) * 2 = k * 2 + 2 from by omega]
    simpa [paCells] using ih
theorem paCells_length (l : List (Int × Int)) : (paCells l).length = 2 * l.length := by
  induction l with
  | nil => rfl
  | cons o l ih => simp [paCells] at ih ⊢; omega

theorem lawMinFinds_long (A : Option Addr) (n c : Nat) (A2 : Option Addr) (n2 c2 : Nat) (w : World) (hn : 10 < n2) :
    Calls Try.prog 6 #[.slice A n c, .slice A2 n2 c2] w fun e w' => e = .returned (.bool true) ∧ Below w.heap.size w w' := by
  have h1 : (10 : Int) < (n2 : Int) := by omega
  go_enter Try.func6, Try.ntmps6
  go_wp2_with fail
  refine (awake7 _).mono ?_
  rintro e w1 ⟨rfl, hB1⟩
  go_wp2_with fail
  refine (awake7 _).mono ?_
  rintro e w2 ⟨rfl, hB2⟩
  go_wp2_with fail
  go_ret
  exact ⟨rfl, hB1.trans (hB2.mono hB1.size)⟩

set_option maxHeartbeats 4000000 in
theorem lawMinFinds_true (A : Option Addr) (c : Nat) (l : List (Bool × Nat)) (A2 : Option Addr) (c2 : Nat) (qs : List (Int × Int)) (w : World) (hl : Lst w A (pcCells l)) (hx : ∀ o ∈ l, o.2 < 65536) (hn : l.length ≤ maxLen)
    (hq : Lst w A2 (paCells qs)) (hqn : qs.length ≤ 10) (hqb : ∀ o ∈ qs, -9223372036854775808 ≤ o.2 ∧ o.2 ≤ 9223372036854775807) :
    Calls Try.prog 6 #[.slice A l.length c, .slice A2 qs.length c2] w fun e w' => e = .returned (.bool true) ∧ Below w.heap.size w w' := by
  have h1 : ¬ ((10 : Int) < (qs.length : Int)) := by omega
  have hbl := pieceBits_length l
  have HBT := hid (fun W hW => pbits_any A c l W hW hx hn)
  generalize pieceBits l = bs at *
  go_enter Try.func6, Try.ntmps6
  go_wp2_with fail
  refine (awake7 _).mono ?_
  rintro e w1 ⟨rfl, hB1⟩
  have hz1 := hB1.size
  go_wp2_with fail
  refine (HBT.out _ (hl.below hB1)).mono ?_
  rintro e w2 ⟨A3, c3, rfl, hl3, hB2⟩
  have hBb := hB1.trans (hB2.mono hz1)
  have hzb := hBb.size
  go_wp2_with fail
  refine (made_any A3 c3 bs _ hl3 (by omega)).mono ?_
  rintro e w3 ⟨gx, Ax, cx', rfl, hr3, _, _, hB3⟩
  have hl33 := hl3.below hB3
  have hBc := hBb.trans (hB3.mono hzb)
  have hzc := hBc.size
  go_wp2_with fail
  refine (mmNew_any gx Ax cx' bs w3 hr3).mono ?_
  rintro e w4 ⟨gl, h, rfl, ht, hB4⟩
  have hl4 := hl33.below hB4
  have hBd := hBc.trans (hB4.mono hzc)
  have hzd := hBd.size
  clear hB1 hB2 hB3 hB4 hBb hBc hl3 hl33 hr3 HBT
  obtain ⟨g, hg⟩ : ∃ g, g = w3.heap.size := ⟨_, rfl⟩
  rw [← hg] at ht ⊢
  clear hg hzc
  go_wp2_with fail
  go_loopw [7] (fun iv wr => ∃ i : Nat, i ≤ qs.length ∧ iv = .int .i64 (i : Nat) ∧ Below w4.heap.size w4 wr) (fun iv _ => qs.length - (intOf iv).toNat)
  case atStart => exact ⟨0, by omega, rfl, Below.refl _ _⟩
  case round =>
    obtain ⟨i, hi, rfl, hB⟩ := hrel
    have hzr := hB.size
    have hiw := wrapi_one i (by omega)
    rcases Nat.lt_or_ge i qs.length with hlt | hge
    · have hii : (i : Int) < (qs.length : Int) := by omega
      have hi0 : (0 : Int) ≤ (i : Int) := by omega
      obtain ⟨ab, ao, rfl, had, hcl⟩ := hq.lit (by rw [paCells_length]; omega)
      obtain ⟨q0, q1⟩ := paCells_get qs i hlt
      have hdb := hqb _ (List.getElem_mem hlt)
      have hBw := hBd.trans (hB.mono hzd)
      have k0 : wr.cell? ⟨ab, ao + i * 2, none⟩ = some (.int .i64 qs[i].1) := (hBw.cell (p := ⟨ab, ao + i * 2, none⟩) had).trans (hcl _ _ q0)
      have k1 : wr.cell? ⟨ab, ao + i * 2 + 1, none⟩ = some (.int .i64 qs[i].2) := (show wr.cell? ⟨ab, ao + i * 2 + 1, none⟩ = _ from (hBw.cell (p := ⟨ab, ao + (i * 2 + 1), none⟩) had).trans (hcl _ _ q1))
      clear hcl q0 q1
      generalize qs[i].1 = a at *
      generalize qs[i].2 = d at *
      have HF1 := hid (fun W (t : TreeAt W g gl gx Ax cx' bs h) => mmForth_any g gl gx Ax cx' bs h a d W t hdb.1 hdb.2)
      have HF2 := hid (fun W (hW : Lst W A3 (bools bs)) => refForth7_any A3 c3 bs a d W hW (by omega))
      have HK1 := hid (fun W (t : TreeAt W g gl gx Ax cx' bs h) => mmBack_any g gl gx Ax cx' bs h a d W t hdb.1 hdb.2)
      have HK2 := hid (fun W (hW : Lst W A3 (bools bs)) => refBack7_any A3 c3 bs a d W hW (by omega))
      have HE1 := hid (fun W (t : TreeAt W g gl gx Ax cx' bs h) => mmExcess_any g gl gx Ax cx' bs h a W t)
      have HE2 := hid (fun W (hW : Lst W A3 (bools bs)) => refExcess7 A3 c3 bs a W hW (by omega))
      generalize forthN (bitAt bs) (held bs.length a) bs.length d = r1 at *
      generalize backN (bitAt bs) 0 (held bs.length a) d = r2 at *
      generalize eb (bitAt bs) 0 (held bs.length a) = r3 at *
      have ht5 := (ht.below hB).below ((Below.refl wr.heap.size wr).alloc (Nat.le_refl _) (.cells #[.int .i64 a, .int .i64 d] 24))
      have hl5 := (hl4.below hB).below ((Below.refl wr.heap.size wr).alloc (Nat.le_refl _) (.cells #[.int .i64 a, .int .i64 d] 24))
      have hB5 := hB.alloc hzr (.cells #[.int .i64 a, .int .i64 d] 24)
      have hn5 := BlkIs.new wr 24 #[.int .i64 a, .int .i64 d]
      obtain ⟨n5, hn5e⟩ : ∃ n5, n5 = wr.heap.size := ⟨_, rfl⟩
      rw [← hn5e] at hn5
      go_wp2_with fail
      rw [← hn5e]
      generalize wr.alloc (.cells #[.int .i64 a, .int .i64 d] 24) = w5 at *
      have d0 := hn5.cell 0
      have d1 := hn5.cell 1
      have n1 : (r1 != r1) = false := by simp
      have n2 : (r2 != r2) = false := by simp
      have n3 : (r3 != r3) = false := by simp
      clear hB hzr hBw k0 k1 hn5 hn5e
      go_quiet ((first
        | (go_at_call 12; exact qmore (HF1.out _ (by exact ht5)))
        | (go_at_call 16; exact quiet_left (HF2.out _ (by exact hl5)))
        | (go_at_call 14; exact qmore (HK1.out _ (by exact ht5)))
        | (go_at_call 17; exact quiet_left (HK2.out _ (by exact hl5)))
        | (go_at_call 13; exact qmore (HE1.out _ (by exact ht5)))
        | (go_at_call 18; exact quiet_left (HE2.out _ (by exact hl5)))))
      go_wp2_with fail
      go_roundw
      case rel => exact ⟨i + 1, by omega, by go_num, below_drewN hB5 _⟩
      case measure => simp [intOf]; omega
    · obtain rfl : i = qs.length := by omega
      have hki : ¬ ((qs.length : Int) < (qs.length : Int)) := by omega
      have ht5 := ht.below hB
      have hl5 := hl4.below hB
      have hBe := hBd.trans (hB.mono hzd)
      have hze := hBe.size
      have HSZ := hid (mmSize_any g gl gx Ax cx' bs h wr ht5)
      have hszb : 640 * 2 ^ h ≤ 3 * bs.length + 2048 := by
        rcases ht5.least with h0 | h0
        · subst h0; simp
        · omega
      have HRW := hid (mmRow_any g gl gx Ax cx' bs h wr ht5)
      have HIS := hid (is_true gx Ax cx' bs A3 c3 wr ht5.row hl5)
      have HBA := hid (fun W (t : TreeAt W g gl gx Ax cx' bs h) => mmBalanced_any g gl gx Ax cx' bs h W t)
      have HRB := hid (fun W (hW : Lst W A3 (bools bs)) => refBalanced_any A3 c3 bs W hW (by omega))
      generalize 640 * 2 ^ h = sz at *
      generalize bal (bitAt bs) bs.length = bl at *
      have hs0 : (0 : Int) ≤ (sz : Int) := by omega
      have w1 : IntKind.i64.wrap (3 * (bs.length : Int)) = 3 * (bs.length : Int) := by rw [IntKind.wrap_i64]; omega
      have w2 : IntKind.i64.wrap (3 * (bs.length : Int) + 2048) = 3 * (bs.length : Int) + 2048 := by rw [IntKind.wrap_i64]; omega
      have hs1 : (sz : Int) ≤ 3 * (bs.length : Int) + 2048 := by omega
      have hbb : (bl == bl) = true := beq_self_eq_true _
      go_wp2_with fail
      refine (HSZ.out).mono ?_
      rintro e w' ⟨rfl, rfl⟩
      go_wp2_with fail
      refine (HSZ.out).mono ?_
      rintro e w' ⟨rfl, rfl⟩
      go_wp2_with fail
      refine (HRW.out).mono ?_
      rintro e w' ⟨rfl, rfl⟩
      go_wp2_with fail
      refine (HIS.out).mono ?_
      rintro e w' ⟨rfl, m, rfl⟩
      go_wp2_with fail
      refine (HBA.out _ (by exact ht5)).mono ?_
      rintro e w' ⟨rfl, rfl⟩
      go_wp2_with fail
      refine (HRB.out _ (by exact hl5)).mono ?_
      rintro e w' ⟨rfl, rfl⟩
      go_wp2_with fail
      go_ret
      exact ⟨by first | rfl | simp, below_drewN hBe _⟩

theorem lawMinFinds_any (A : Option Addr) (c : Nat) (l : List (Bool × Nat)) (A2 : Option Addr) (c2 : Nat) (qs : List (Int × Int)) (w : World) (hl : Lst w A (pcCells l)) (hx : ∀ o ∈ l, o.2 < 65536) (hn : l.length ≤ maxLen)
    (hq : Lst w A2 (paCells qs)) (hqb : ∀ o ∈ qs, (-9223372036854775808 ≤ o.1 ∧ o.1 ≤ 9223372036854775807) ∧ (-9223372036854775808 ≤ o.2 ∧ o.2 ≤ 9223372036854775807)) :
    Calls Try.prog 6 #[.slice A l.length c, .slice A2 qs.length c2] w fun e w' => e = .returned (.bool true) ∧ Below w.heap.size w w' := by
  rcases Nat.lt_or_ge 10 qs.length with h | h
  · exact lawMinFinds_long A _ c A2 _ c2 w h
  · exact lawMinFinds_true A c l A2 c2 qs w hl hx hn hq h (fun o ho => (hqb o ho).2)
end Go.Proofs.Ytlpnbkfcbamnbaa
