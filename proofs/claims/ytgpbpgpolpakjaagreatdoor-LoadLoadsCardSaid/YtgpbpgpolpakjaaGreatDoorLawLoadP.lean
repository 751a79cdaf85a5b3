/- Proof text. -/
import Derived.Test.YtgpbpgpolpakjaaGreatDoorRefTabP
import Derived.BigQuiet
import Derived.Test.YtgpbpgpolpakjaaGreatDoorRefTabE
import Derived.Test.YtgpbpgpolpakjaaGreatDoorRefTabQ
import Derived.Test.YtgpbpgpolpakjaaGreatDoorLoadQ
import Derived.Test.YtgpbpgpolpakjaaGreatDoorLawLoadB
set_option maxHeartbeats 8000000
set_option linter.unusedVariables false
set_option linter.unusedSimpArgs false
set_option maxRecDepth 100000
namespace Go.Proofs.YtgpbpgpolpakjaaGreatDoor
open Go.RowKit Go.Shelf L
def zhh (t u : TabN) (w : World) (e : Ending) (w' : World) : Prop := ∃ ok, e = .returned (.bool ok) ∧ (ok = true ↔ t = u) ∧ Below w.heap.size w w'
theorem z7j {t u : TabN} {w w' : World} (h : Below w.heap.size w w') (hn : t ≠ u) : zhh t u w (.returned (.bool false)) w' := ⟨false, rfl, ⟨fun e => by simp at e, fun e => absurd e hn⟩, h⟩
theorem z4n {t u : TabN} {w w' : World} (h : Below w.heap.size w w') (he : t = u) : zhh t u w (.returned (.bool true)) w' := ⟨true, rfl, ⟨fun _ => he, fun _ => rfl⟩, h⟩
theorem zup {s t : ByteArray} (h : s ≠ t) : (s.toList == t.toList) = false := by
 rw [beq_eq_false_iff_ne]
 intro e
 rw [ByteArray.toList_eq, ByteArray.toList_eq] at e
 exact h (by apply ByteArray.ext; apply Array.toList_inj.1; exact e)
theorem zrf (t u : TabN) (A B : Option Addr) (c d : Nat) (w : World) (hA : Lst w A (entC t.es)) (hB : Lst w B (entC u.es)) (hn : t.es.length ≤ 1000000) :
  Calls Tryz.prog 73 #[.agg #[.int .i64 t.deep, .int .i64 t.size, .slice A t.es.length c], .agg #[.int .i64 u.deep, .int .i64 u.size, .slice B u.es.length d]] w (zhh t u w) := by
 obtain ⟨d1, z1, xs⟩ := t
 obtain ⟨d2, z2, ys⟩ := u
 dsimp only at *
 have HNO := hid (show ∀ w', Below w.heap.size w w' → (d1 ≠ d2 ∨ z1 ≠ z2 ∨ xs ≠ ys) → zhh ⟨d1, z1, xs⟩ ⟨d2, z2, ys⟩ w (.returned (.bool false)) w' from fun w' hb hne => z7j hb fun e => by
  injection e with e1 e2 e3
  rcases hne with h | h | h
  ·exact absurd e1 h
  ·exact absurd e2 h
  ·exact absurd e3 h)
 have HYES := hid (show ∀ w', Below w.heap.size w w' → d1 = d2 ∧ z1 = z2 ∧ xs = ys → zhh ⟨d1, z1, xs⟩ ⟨d2, z2, ys⟩ w (.returned (.bool true)) w' from fun w' hb ⟨e1, e2, e3⟩ => z4n hb (by rw [e1, e2, e3]))
 have hb1 : Below w.heap.size w (w.alloc (.cells #[.int .i64 d1, .int .i64 z1, .slice A xs.length c] 107)) := (Below.refl _ _).alloc (Nat.le_refl _) _
 have hsz1 : (w.alloc (.cells #[.int .i64 d1, .int .i64 z1, .slice A xs.length c] 107)).heap.size = w.heap.size + 1 := by simp
 have hX := (za.new w 107 #[.int .i64 d1, .int .i64 z1, .slice A xs.length c]).alloc (.cells #[.int .i64 d2, .int .i64 z2, .slice B ys.length d] 107)
 have hY := za.new (w.alloc (.cells #[.int .i64 d1, .int .i64 z1, .slice A xs.length c] 107)) 107 #[.int .i64 d2, .int .i64 z2, .slice B ys.length d]
 have hb2 := hb1.alloc (by rw [hsz1]; omega) (.cells #[.int .i64 d2, .int .i64 z2, .slice B ys.length d] 107)
 rw [hsz1] at hY
 have hA2 := hA.below hb2
 have hB2 := hB.below hb2
 have x0 := hX.cell 0
 have x1 := hX.cell 1
 have x2 := hX.cell 2
 have y0 := hY.cell 0
 have y1 := hY.cell 1
 have y2 := hY.cell 2
 clear hsz1 hA hB hX hY hb1
 by_cases hd : d1 = d2
 case neg =>
  have q1 : (d1 != d2) = true := by rw [bne_iff_ne]; exact hd
  have q2 : (d1 == d2) = false := by rw [beq_eq_false_iff_ne]; exact hd
  go_enter Tryz.func73, Tryz.ntmps73
  go_wp2_with fail
  go_ret
  exact HNO.out _ hb2 (.inl hd)
 by_cases hz : z1 = z2
 case neg =>
  have q1 : (z1 != z2) = true := by rw [bne_iff_ne]; exact hz
  have q2 : (z1 == z2) = false := by rw [beq_eq_false_iff_ne]; exact hz
  subst hd
  go_enter Tryz.func73, Tryz.ntmps73
  go_wp2_with fail
  go_ret
  exact HNO.out _ hb2 (.inr (.inl hz))
 by_cases hl : xs.length = ys.length
 case neg =>
  have q1 : ((xs.length : Int) != (ys.length : Int)) = true := by rw [bne_iff_ne]; omega
  have q2 : ((xs.length : Int) == (ys.length : Int)) = false := by rw [beq_eq_false_iff_ne]; omega
  have q3 : ¬ ((xs.length : Int) = (ys.length : Int)) := by omega
  subst hd
  subst hz
  go_enter Tryz.func73, Tryz.ntmps73
  go_wp2_with fail
  go_ret
  exact HNO.out _ hb2 (.inr (.inr (fun e => hl (by rw [e]))))
 have HL := hid hl
 subst hd
 subst hz
 have q1 : ((xs.length : Int) != (ys.length : Int)) = false := by rw [hl]; simp
 have q2 : ((xs.length : Int) == (ys.length : Int)) = true := by rw [hl]; simp
 have q3 : (xs.length == ys.length) = true := by rw [hl]; simp
 have q4 : decide (xs.length = ys.length) = true := decide_eq_true hl
 have q5 : decide ((xs.length : Int) = (ys.length : Int)) = true := decide_eq_true (by omega)
 clear hl
 go_enter Tryz.func73, Tryz.ntmps73
 go_wp2_with fail
 generalize (w.alloc (.cells #[.int .i64 d1, .int .i64 z1, .slice A xs.length c] 107)).alloc (.cells #[.int .i64 d1, .int .i64 z1, .slice B ys.length d] 107) = W2 at *
 go_loopw [5] (fun iv wr => ∃ j m : Nat, iv = .int .i64 (j : Nat) ∧ j ≤ xs.length ∧ wr = W2.drewN m ∧ Hid (∀ i (h : i < xs.length) (h' : i < ys.length), i < j → xs[i] = ys[i])) (fun iv _ => xs.length - (intOf iv).toNat)
 case atStart => exact ⟨0, 0, rfl, by omega, rfl, hid (fun i h h' hi => absurd hi (by omega))⟩
 case round =>
  obtain ⟨j, m, rfl, hj, rfl, HE⟩ := hrel
  rcases Nat.lt_or_ge j xs.length with hlt | hge
  ·have hji : (j : Int) < (xs.length : Int) := by omega
   have hlt' : j < ys.length := by have := HL.out; omega
   have hji2 : (j : Int) < (ys.length : Int) := by omega
   have hj0 : (0 : Int) ≤ (j : Int) := by omega
   have hjW := zg j (by omega)
   obtain ⟨g, o, rfl, hg, k0, k1, k2, k3, k4⟩ := zdm hA2 hlt
   obtain ⟨g2, o2, rfl, hg2, l0, l1, l2, l3, l4⟩ := zdm hB2 hlt'
   have HN1 := hid (fun (he : xs[j] = ys[j]) => (show ∀ i (h : i < xs.length) (h' : i < ys.length), i < j + 1 → xs[i] = ys[i] from fun i h h' hi => by
    rcases Nat.lt_or_ge i j with h1 | h1
    ·exact HE.out i h h' h1
    ·obtain rfl : i = j := by omega
     exact he))
   have HN2 := hid (fun (he : xs[j] ≠ ys[j]) => (show xs ≠ ys from fun e => he (List.getElem_of_eq e hlt)))
   generalize xs[j] = x at *
   generalize ys[j] = y at *
   by_cases hxy : x = y
   ·subst hxy
    have HN3 := hid (HN1.out rfl)
    clear HN1 HN2 HE
    go_wp2_with fail
    go_quiet (fail)
    go_wp2_with fail
    go_roundw
    case rel => exact ⟨j + 1, _, by go_num, by omega, rfl, HN3⟩
    case measure => simp [intOf]; omega
   ·have HN3 := hid (HN2.out hxy)
    obtain ⟨xa, xb, xv, xp, xq⟩ := x
    obtain ⟨ya, yb, yv, yp, yq⟩ := y
    dsimp only at *
    clear HN1 HN2 HE
    by_cases hc : xa = ya
    case neg =>
     have c1 : (xa == ya) = false := by rw [beq_eq_false_iff_ne]; exact hc
     have c2 : decide (xa = ya) = false := decide_eq_false hc
     go_wp2_with fail
     go_quiet (fail)
     go_wp2_with fail
     go_ret
     exact HNO.out _ (below_drewN (below_drewN hb2 _) _) (.inr (.inr HN3.out))
    subst hc
    by_cases hc : xb = yb
    case neg =>
     have c1 : (xb == yb) = false := by rw [beq_eq_false_iff_ne]; exact hc
     have c2 : decide (xb = yb) = false := decide_eq_false hc
     go_wp2_with fail
     go_quiet (fail)
     go_wp2_with fail
     go_ret
     exact HNO.out _ (below_drewN (below_drewN hb2 _) _) (.inr (.inr HN3.out))
    subst hc
    by_cases hc : xv = yv
    case neg =>
     have c1 : (xv == yv) = false := by rw [beq_eq_false_iff_ne]; exact hc
     have c2 : decide (xv = yv) = false := decide_eq_false hc
     go_wp2_with fail
     go_quiet (fail)
     go_wp2_with fail
     go_ret
     exact HNO.out _ (below_drewN (below_drewN hb2 _) _) (.inr (.inr HN3.out))
    subst hc
    by_cases hc : xp = yp
    case neg =>
     have c1 : (xp == yp) = false := by rw [beq_eq_false_iff_ne]; exact hc
     have c2 : decide (xp = yp) = false := decide_eq_false hc
     go_wp2_with fail
     go_quiet (fail)
     go_wp2_with fail
     go_ret
     exact HNO.out _ (below_drewN (below_drewN hb2 _) _) (.inr (.inr HN3.out))
    subst hc
    have hc : ¬ xq = yq := fun e => hxy (by rw [e])
    have c1 := zup hc
    have c2 : decide (xq = yq) = false := decide_eq_false hc
    go_wp2_with fail
    go_quiet (fail)
    go_wp2_with fail
    go_ret
    exact HNO.out _ (below_drewN (below_drewN hb2 _) _) (.inr (.inr HN3.out))
  ·obtain rfl : j = xs.length := by omega
   have HXY := hid (show xs = ys from List.ext_getElem HL.out (fun i h h' => HE.out i h h' h))
   go_wp2_with fail
   go_ret
   exact HYES.out _ (below_drewN hb2 _) ⟨by first | rfl | trivial, by first | rfl | trivial, HXY.out⟩
def zis (s b : ByteArray) (w : World) (e : Ending) (w' : World) : Prop :=
 Below w.heap.size w w' ∧ ((∃ deep : Nat, e = .returned (.tuple #[.int .i64 (deep : Nat), .int .i64 0]) ∧ 1 ≤ deep ∧ deep ≤ 4096 ∧ za1 b.data.toList (tblS s deep)) ∨
  (e = .returned (.tuple #[.int .i64 0, .int .i64 (zb8 b.data.toList : Nat)]) ∧ ∀ t, ¬ za1 b.data.toList t) ∨
  (e = .returned (.tuple #[.int .i64 0, .int .i64 12]) ∧ ∃ t, za1 b.data.toList t ∧ t ≠ tblS s t.deep.toNat))
theorem zrg (s b : ByteArray) (w : World) (hs : s.size ≤ 4096) (hb : b.size ≤ 1000000) :
  Calls Tryz.prog 25 #[.string s, .string b] w (zis s b w) := by
 have RD := hid (fun W => zre b W hb)
 have HF := hid (show ∀ w' (k : Nat), Below w.heap.size w w' → (∀ t, ¬ za1 b.data.toList t) → k = zb8 b.data.toList → zis s b w (.returned (.tuple #[.int .i64 0, .int .i64 (k : Nat)])) w' from fun w' k h1 h2 h3 => ⟨h1, .inr (.inl ⟨by rw [h3], h2⟩)⟩)
 have HS := hid (show ∀ w' t, Below w.heap.size w w' → za1 b.data.toList t → t ≠ tblS s t.deep.toNat → zis s b w (.returned (.tuple #[.int .i64 0, .int .i64 12])) w' from fun w' t h1 h2 h3 => ⟨h1, .inr (.inr ⟨rfl, t, h2, h3⟩)⟩)
 have HY := hid (show ∀ w' (deep : Nat), Below w.heap.size w w' → 1 ≤ deep → deep ≤ 4096 → za1 b.data.toList (tblS s deep) → zis s b w (.returned (.tuple #[.int .i64 (deep : Nat), .int .i64 0])) w' from fun w' deep h1 h2 h3 h5 => ⟨h1, .inl ⟨deep, rfl, h2, h3, h5⟩⟩)
 unfold zfp at RD
 have HRP := hid (zk9 b.data.toList)
 generalize zb8 b.data.toList = rk at *
 go_enter Tryz.func25, Tryz.ntmps25
 go_wp2_with fail
 refine (RD.out _).mono ?_
 rintro e w2 ⟨hB2, ⟨t, At, ct, rfl, hlt, hta⟩ | ⟨rfl, hno⟩⟩
 case inr =>
  have hk0 := HRP.out
  have hkb : ((rk : Int) == 0) = false := by rw [beq_eq_false_iff_ne]; omega
  have hkc : ((rk : Int) != 0) = true := by rw [bne_iff_ne]; omega
  clear hk0 HRP
  go_wp2_with fail
  go_ret2
  exact HF.out _ rk (hB2.alloc hB2.size _) hno rfl
 have HTA := hid hta
 have hf := hta.1
 obtain ⟨f1, f2, f3, f4, f5, f6⟩ := hf
 obtain ⟨d, hd⟩ : ∃ d : Nat, t.deep = (d : Int) := ⟨t.deep.toNat, by omega⟩
 have hd1 : 1 ≤ d := by omega
 have hd2 : d ≤ 4096 := by omega
 have hdn : t.deep.toNat = d := by omega
 have HTB := hid (fun W => zir s d W hs hd1 hd2)
 have HSM := hid (fun A B c e W hA hB => zrf t (tblS s d) A B c e W hA hB (by omega))
 have hXT := za.new w2 107 #[.int .i64 t.deep, .int .i64 t.size, .slice At t.es.length ct]
 have hB3 := hB2.alloc hB2.size (.cells #[.int .i64 t.deep, .int .i64 t.size, .slice At t.es.length ct] 107)
 have hB23 : Below w2.heap.size w2 (w2.alloc (.cells #[.int .i64 t.deep, .int .i64 t.size, .slice At t.es.length ct] 107)) := (Below.refl _ _).alloc (Nat.le_refl _) _
 have hl3 := hlt.below hB23
 unfold zhv at HTB
 have HSS := hid (fun (hne : t ≠ tblS s d) => (show t ≠ tblS s t.deep.toNat by rw [hdn]; exact hne))
 have HYD := hid (fun w' (hb : Below w.heap.size w w') (he : t = tblS s d) => HY.out w' d hb hd1 hd2 (by rw [← he]; exact HTA.out))
 rw [hd] at hXT hB3 hB23 hl3 HSM
 clear f1 f2 f3 f4 f5 f6 hta RD HF HRP hlt hdn
 generalize tblS s d = u at *
 go_wp2_with fail
 have hRl := hXT.lt
 generalize hTe : w2.heap.size = T at *
 generalize (w2.alloc (.cells #[.int .i64 (d : Nat), .int .i64 t.size, .slice At t.es.length ct] 107)) = w3 at *
 have KX := hid (show ∀ W, Below w3.heap.size w3 W → W.cell? ⟨T, 0, none⟩ = some (.int .i64 (d : Nat)) ∧ W.cell? ⟨T, 1, none⟩ = some (.int .i64 t.size) ∧ W.cell? ⟨T, 2, none⟩ = some (.slice At t.es.length ct) from fun W hW => ⟨(hXT.below hW).cell 0, (hXT.below hW).cell 1, (hXT.below hW).cell 2⟩)
 have hB00 := Below.refl w3.heap.size w3
 have kk := KX.out _ hB00
 have D1 := hid (fun W (hW : Below w3.heap.size w3 W) => (HTB.out W).mono (R' := fun e w' => ∃ A c, e = .returned (.agg #[.int .i64 u.deep, .int .i64 u.size, .slice A u.es.length c]) ∧ Lst w' A (entC u.es) ∧ Below w3.heap.size w3 w') (fun e w' ⟨A, c, h1, h2, h3⟩ => ⟨A, c, h1, h2, hW.trans (h3.mono hW.size)⟩))
 have D2 := hid (fun W (hW : Below w3.heap.size w3 W) B e (hB : Lst W B (entC u.es)) => (HSM.out At B ct e W (hl3.below hW) hB).mono (R' := fun e w' => ∃ ok, e = .returned (.bool ok) ∧ (ok = true ↔ t = u) ∧ Below w3.heap.size w3 w') (fun e w' ⟨ok, h1, h2, h3⟩ => ⟨ok, h1, h2, hW.trans (h3.mono hW.size)⟩))
 clear HTB HSM
 go_region_held3 (fun w' => Below w3.heap.size w3 w' ∧ w'.cell? ⟨T, 0, none⟩ = some (.int .i64 (d : Nat)) ∧ w'.cell? ⟨T, 1, none⟩ = some (.int .i64 t.size) ∧ w'.cell? ⟨T, 2, none⟩ = some (.slice At t.es.length ct)) (first | exact ⟨hB00.drew, kk⟩ | exact ⟨hB00, kk⟩ | exact ⟨e1, KX.out _ e1⟩ | exact ⟨e2, KX.out _ e2⟩ | assumption)
  (first
   | (go_at_call 74; with_reducible refine (D1.out _ (by first | assumption | exact And.left (by assumption))).mono ?_; rintro e w6 ⟨A6, c6, rfl, hl6, e1⟩)
   | (go_at_call 73; with_reducible refine (D2.out _ (by first | assumption | exact And.left (by assumption)) _ _ (by assumption)).mono ?_; rintro e w7 ⟨ok, rfl, hok, e2⟩))
 all_goals
  have hB7 := hB3.trans (e2.mono hB3.size)
  have kz := (KX.out _ e2).1
  cases ok with
  | true =>
    have HQ := hid (hok.1 rfl)
    clear hok
    go_wp2_with fail
    go_ret2
    exact HYD.out _ hB7 HQ.out
  | false =>
    have HQ := hid (HSS.out (fun e => by have := hok.2 e; cases this))
    clear hok
    go_wp2_with fail
    go_ret2
    exact HS.out _ t hB7 HTA.out HQ.out
theorem L.zhw (s : ByteArray) (deep : Nat) : (tblS s deep).deep.toNat = deep := by unfold tblS; simp
theorem zhg.shape {s b : ByteArray} {w w' : World} {e : Ending} (h : zhg s b w e w') : ∃ p k, e = .returned (.tuple #[.pointer p, .int .i64 k]) := by
 rcases h.2 with ⟨g, d, rfl, _⟩ | ⟨rfl, _⟩ | ⟨rfl, _⟩
 ·exact ⟨_, _, rfl⟩
 ·exact ⟨_, _, rfl⟩
 ·exact ⟨_, _, rfl⟩
theorem zla {s b : ByteArray} {w w1 w2 : World} {e : Ending} {p : Option Addr} {k : Int} (h1 : zhg s b w (.returned (.tuple #[.pointer p, .int .i64 k])) w1) (h2 : zis s b w1 e w2) :
  ∃ dI, e = .returned (.tuple #[.int .i64 dI, .int .i64 k]) ∧ ((k = 0 ∧ ∃ g, ∃ n : Nat, p = some ⟨g, 0, none⟩ ∧ dI = (n : Int) ∧ 1 ≤ n ∧ n ≤ 4096 ∧ zc0 w1 g s n) ∨ (k ≠ 0 ∧ p = none)) := by
 have hp := zk9 b.data.toList
 rcases h1.2 with ⟨g, d, e1, a1, a2, a3, a4⟩ | ⟨e1, a1⟩ | ⟨e1, t, a1, a2⟩
 ·simp only [Ending.returned.injEq, Value.tuple.injEq, Array.mk.injEq, List.cons.injEq, Value.pointer.injEq, Value.int.injEq, and_true, true_and] at e1
  obtain ⟨rfl, rfl⟩ := e1
  rcases h2.2 with ⟨d2, rfl, b1, b2, b3⟩ | ⟨_, b1⟩ | ⟨_, t, b1, b2⟩
  ·have e2 := a4.uniq b3
   have e3 := zhw s d
   rw [e2, zhw] at e3
   subst e3
   exact ⟨_, rfl, .inl ⟨rfl, g, d2, rfl, rfl, b1, b2, a3⟩⟩
  ·exact absurd a4 (b1 _)
  ·have e2 := b1.uniq a4
   rw [e2, zhw] at b2
   exact absurd rfl b2
 ·simp only [Ending.returned.injEq, Value.tuple.injEq, Array.mk.injEq, List.cons.injEq, Value.pointer.injEq, Value.int.injEq, and_true, true_and] at e1
  obtain ⟨rfl, rfl⟩ := e1
  rcases h2.2 with ⟨d2, rfl, b1, b2, b3⟩ | ⟨rfl, b1⟩ | ⟨_, t, b1, b2⟩
  ·exact absurd b3 (a1 _)
  ·exact ⟨_, rfl, .inr ⟨by omega, rfl⟩⟩
  ·exact absurd b1 (a1 _)
 ·simp only [Ending.returned.injEq, Value.tuple.injEq, Array.mk.injEq, List.cons.injEq, Value.pointer.injEq, Value.int.injEq, and_true, true_and] at e1
  obtain ⟨rfl, rfl⟩ := e1
  rcases h2.2 with ⟨d2, rfl, b1, b2, b3⟩ | ⟨rfl, b1⟩ | ⟨rfl, _⟩
  ·have e2 := a1.uniq b3
   rw [e2, zhw] at a2
   exact absurd rfl a2
  ·exact absurd a1 (b1 _)
  ·exact ⟨_, rfl, .inr ⟨by decide, rfl⟩⟩
theorem L.z7k {b : ByteArray} {t : TabN} (h : za1 b.data.toList t) (hb : b.size ≤ 1500) : ∀ x ∈ t.es, x.s.size ≤ 1450 := fun x hx => by
 have h1 := congrArg List.length h.2
 rw [zan, zl9, zdh] at h1
 obtain ⟨j, hj, rfl⟩ := List.getElem_of_mem hx
 have h2 : (zad t.es).length = (zad (t.es.take j)).length + (zad (t.es.drop j)).length := by rw [← List.length_append, ← zeg, List.take_append_drop]
 rw [List.drop_eq_getElem_cons hj, zen, List.length_append, zf6] at h2
 omega
theorem zgp (s b : ByteArray) (m : Bool) (w : World) (h : 400 < s.size ∨ 1500 < b.size) :
  Calls Tryz.prog 7 #[.string s, .string b, .bool m] w fun e w' => e = .returned (.bool true) ∧ Below w.heap.size w w' := by
 by_cases h1 : 400 < s.size
 ·have g1 : (400 : Int) < (s.size : Int) := by omega
  go_enter Tryz.func7, Tryz.ntmps7
  go_wp2_with fail
  refine (zfx _).mono ?_
  rintro e w1 ⟨rfl, hB1⟩
  go_wp2_with fail
  refine (zfx _).mono ?_
  rintro e w2 ⟨rfl, hB2⟩
  go_wp2_with fail
  go_ret
  exact ⟨rfl, hB1.trans (hB2.mono hB1.size)⟩
 ·have g1 : ¬ ((400 : Int) < (s.size : Int)) := by omega
  have g2 : (1500 : Int) < (b.size : Int) := by omega
  go_enter Tryz.func7, Tryz.ntmps7
  go_wp2_with fail
  refine (zfx _).mono ?_
  rintro e w1 ⟨rfl, hB1⟩
  go_wp2_with fail
  refine (zfx _).mono ?_
  rintro e w2 ⟨rfl, hB2⟩
  go_wp2_with fail
  go_ret
  exact ⟨rfl, hB1.trans (hB2.mono hB1.size)⟩
theorem zlp (s b : ByteArray) (m : Bool) (w : World) (h1 : s.size ≤ 400) (h2 : b.size ≤ 1500) (hT : Tab w) :
  Calls Tryz.prog 7 #[.string s, .string b, .bool m] w fun e w' => e = .returned (.bool true) ∧ Below w.heap.size w w' := by
 have g1 : ¬ ((400 : Int) < (s.size : Int)) := by omega
 have g2 : ¬ ((1500 : Int) < (b.size : Int)) := by omega
 have HL := hid (fun (B : ByteArray) (hB : B.size ≤ 1500) W hTW => zyp s B W (by omega) (by omega) hTW (fun t ht => z7k ht hB))
 have HR2 := hid (fun (B : ByteArray) (hB : B.size ≤ 1500) W => zrg s B W (by omega) (by omega))
 have HT := hid (show ∀ W, Below w.heap.size w W → Tab W from fun W hW => hT.below hW)
 clear hT
 by_cases hm : m = true ∧ 8 ≤ b.size
 case neg =>
  cases m with
  | false =>
    clear hm
    go_enter Tryz.func7, Tryz.ntmps7
    go_wp2_with fail
    refine (zfx _).mono ?_
    rintro e w1 ⟨rfl, hB1⟩
    have hT1 := HT.out _ hB1
    go_wp2_with fail
    refine (HL.out b h2 _ hT1).mono ?_
    rintro e w3 hL3
    obtain ⟨p, k, rfl⟩ := hL3.shape
    have hB3 := hB1.trans (hL3.1.mono hB1.size)
    go_wp2_with fail
    refine (HR2.out b h2 _).mono ?_
    rintro e w4 hR4
    obtain ⟨dI, rfl, hk⟩ := zla hL3 hR4
    have hB4 := hB3.trans (hR4.1.mono hB3.size)
    rcases hk with ⟨rfl, g, n, rfl, rfl, hn1, hn2, hset⟩ | ⟨hk0, rfl⟩
    ·have hset4 := hset.below hR4.1
     have HI := hid (zmz g s n w4 hset4 (HT.out _ hB4) (by omega) hn1 hn2)
     clear hL3 hR4 hset hset4
     go_wp2_with fail
     refine HI.out.mono ?_
     rintro e w5 ⟨rfl, hB5⟩
     go_wp2_with fail
     go_ret
     exact ⟨by first | rfl | simp, hB4.trans (hB5.mono hB4.size)⟩
    ·have hkb : (k == 0) = false := by rw [beq_eq_false_iff_ne]; exact hk0
     have hkc : (k != 0) = true := by rw [bne_iff_ne]; exact hk0
     clear hL3 hR4
     go_wp2_with fail
     go_ret
     exact ⟨by first | rfl | simp, hB4⟩
  | true =>
    have g3 : ¬ ((8 : Int) ≤ (b.size : Int)) := fun h => hm ⟨rfl, by omega⟩
    have g4 : ¬ (8 ≤ b.size) := fun h => hm ⟨rfl, h⟩
    have g5 : (b.size : Int) < 8 := by omega
    clear hm
    go_enter Tryz.func7, Tryz.ntmps7
    go_wp2_with fail
    refine (zfx _).mono ?_
    rintro e w1 ⟨rfl, hB1⟩
    have hT1 := HT.out _ hB1
    go_wp2_with fail
    refine (HL.out b h2 _ hT1).mono ?_
    rintro e w3 hL3
    obtain ⟨p, k, rfl⟩ := hL3.shape
    have hB3 := hB1.trans (hL3.1.mono hB1.size)
    go_wp2_with fail
    refine (HR2.out b h2 _).mono ?_
    rintro e w4 hR4
    obtain ⟨dI, rfl, hk⟩ := zla hL3 hR4
    have hB4 := hB3.trans (hR4.1.mono hB3.size)
    rcases hk with ⟨rfl, g, n, rfl, rfl, hn1, hn2, hset⟩ | ⟨hk0, rfl⟩
    ·have hset4 := hset.below hR4.1
     have HI := hid (zmz g s n w4 hset4 (HT.out _ hB4) (by omega) hn1 hn2)
     clear hL3 hR4 hset hset4
     go_wp2_with fail
     refine HI.out.mono ?_
     rintro e w5 ⟨rfl, hB5⟩
     go_wp2_with fail
     go_ret
     exact ⟨by first | rfl | simp, hB4.trans (hB5.mono hB4.size)⟩
    ·have hkb : (k == 0) = false := by rw [beq_eq_false_iff_ne]; exact hk0
     have hkc : (k != 0) = true := by rw [bne_iff_ne]; exact hk0
     clear hL3 hR4
     go_wp2_with fail
     go_ret
     exact ⟨by first | rfl | simp, hB4⟩
 obtain ⟨rfl, h8⟩ := hm
 obtain ⟨n, hn⟩ : ∃ n, n = b.size - 8 := ⟨_, rfl⟩
 have hb8 : b.size = n + 8 := by omega
 have hn15 : n ≤ 1492 := by omega
 clear hn
 have hnW2 : IntKind.i64.wrap (n : Int) = (n : Int) := by rw [IntKind.wrap_i64]; omega
 have g3 : (8 : Int) ≤ (b.size : Int) := by omega
 have hhs : (b.extract 0 n).size = n := by rw [ByteArray.size_extract]; omega
 have HSM := hid (fun W => zhe (b.extract 0 n) W (by omega))
 have HEI := hid (show ∀ W, Calls Tryz.prog 23 #[.int .u64 (sumL (b.extract 0 n).data.toList : Nat)] W fun e w' => e = .returned (.string (bs (leB (sumL (b.extract 0 n).data.toList) 8))) ∧ Below W.heap.size W w' from fun W => zbl _ W (zfe _))
 have hz8 : (bs (leB (sumL (b.extract 0 n).data.toList) 8)).size = 8 := by rw [zc4, ze]
 generalize sumL (b.extract 0 n).data.toList = x at *
 generalize bs (leB x 8) = E8 at *
 have hBs : (b.extract 0 n ++ E8).size ≤ 1500 := by rw [ByteArray.size_append]; omega
 have hbA : ¬ 9223372036854775807 < (b.extract 0 n).size + E8.size := by omega
 go_enter Tryz.func7, Tryz.ntmps7
 go_wp2_with fail
 refine (zfx _).mono ?_
 rintro e w1 ⟨rfl, hB1⟩
 go_wp2_with fail
 go_region_with (first
  | (go_at_call 24; refine (HSM.out _).mono ?_; rintro e w6 ⟨rfl, h6⟩; subst h6)
  | (go_at_call 23; refine (HEI.out _).mono ?_; rintro e w7 ⟨rfl, e2⟩))
 all_goals go_simp
 all_goals
  have hB1' := hB1.trans (((Below.refl w1.heap.size w1).drew.trans (show Below w1.heap.size w1.drew w7 from e2)).mono hB1.size)
  clear hB1
  have hB1 := hB1'
  have hT1 := HT.out _ hB1
  clear hB1' e2 HSM HEI hnW2
  go_wp2_with fail
  refine (HL.out (b.extract 0 n ++ E8) hBs _ hT1).mono ?_
  rintro e w3 hL3
  obtain ⟨p, k, rfl⟩ := hL3.shape
  have hB3 := hB1.trans (hL3.1.mono hB1.size)
  go_wp2_with fail
  refine (HR2.out (b.extract 0 n ++ E8) hBs _).mono ?_
  rintro e w4 hR4
  obtain ⟨dI, rfl, hk⟩ := zla hL3 hR4
  have hB4 := hB3.trans (hR4.1.mono hB3.size)
  rcases hk with ⟨rfl, g, n, rfl, rfl, hn1, hn2, hset⟩ | ⟨hk0, rfl⟩
  ·have hset4 := hset.below hR4.1
   have HI := hid (zmz g s n w4 hset4 (HT.out _ hB4) (by omega) hn1 hn2)
   clear hL3 hR4 hset hset4
   go_wp2_with fail
   refine HI.out.mono ?_
   rintro e w5 ⟨rfl, hB5⟩
   go_wp2_with fail
   go_ret
   exact ⟨by first | rfl | simp, hB4.trans (hB5.mono hB4.size)⟩
  ·have hkb : (k == 0) = false := by rw [beq_eq_false_iff_ne]; exact hk0
   have hkc : (k != 0) = true := by rw [bne_iff_ne]; exact hk0
   clear hL3 hR4
   go_wp2_with fail
   go_ret
   exact ⟨by first | rfl | simp, hB4⟩
theorem zm0 (s b : ByteArray) (m : Bool) (w : World) (hT : Tab w) :
  Calls Tryz.prog 7 #[.string s, .string b, .bool m] w fun e w' => e = .returned (.bool true) ∧ Below w.heap.size w w' := by
 rcases Nat.lt_or_ge 400 s.size with h | h
 ·exact zgp s b m w (.inl h)
 ·rcases Nat.lt_or_ge 1500 b.size with h2 | h2
  ·exact zgp s b m w (.inr h2)
  ·exact zlp s b m w h h2 hT
end Go.Proofs.YtgpbpgpolpakjaaGreatDoor
