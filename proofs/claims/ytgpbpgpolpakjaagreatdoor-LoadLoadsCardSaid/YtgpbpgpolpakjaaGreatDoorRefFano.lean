/- Proof text. -/
import Derived.Test.YtgpbpgpolpakjaaGreatDoorFanoQ
import Derived.Test.YtgpbpgpolpakjaaGreatDoorBitsQ
import Derived.Test.YtgpbpgpolpakjaaGreatDoorLawFanoP
set_option maxHeartbeats 2000000
set_option linter.unusedVariables false
set_option linter.unusedSimpArgs false
set_option maxRecDepth 100000
namespace Go.Proofs.YtgpbpgpolpakjaaGreatDoor
open Go.RowKit Go.Shelf L
theorem z2y (x i : Nat) (hx : x < 9223372036854775808) : (bits BinOp.and IntKind.i64 ((x : Int) / 2 ^ i) 1 == 1) = x.testBit i := by
 have e : (x : Int) / 2 ^ i = ((x / 2 ^ i : Nat) : Int) := by simp
 have hq : x / 2 ^ i < 9223372036854775808 := Nat.lt_of_le_of_lt (Nat.div_le_self _ _) hx
 have e3 : bits BinOp.and IntKind.i64 ((x / 2 ^ i : Nat) : Int) 1 = ((x / 2 ^ i % 2 : Nat) : Int) := by
  show IntKind.i64.wrap ((BitVec.ofInt 64 ((x / 2 ^ i : Nat) : Int) &&& BitVec.ofInt 64 ((1 : Nat) : Int)).toNat : Int) = _
  rw [BitVec.toNat_and, ofInt_u64 _ (by omega), ofInt_u64 1 (by omega), Nat.and_one_is_mod, IntKind.wrap_i64]
  omega
 rw [e, e3, Nat.testBit_eq_decide_div_mod_eq]
 rcases Nat.mod_two_eq_zero_or_one (x / 2 ^ i) with h0 | h0 <;> rw [h0] <;> rfl
theorem zh3 (v n : Nat) (w : World) (hv : v < 9223372036854775808) (hn : n ≤ 60) :
  Calls Tryz.prog 104 #[.int .i64 (v : Nat), .int .i64 (n : Nat)] w fun e w' => ∃ A c, e = .returned (.slice A n c) ∧ w'.ownsRow w.heap.size 4 1 (.slice A n c) n (bools (bitsOf v n)) ∧ Below w.heap.size w w' := by
 obtain ⟨i0, hi0, iz0, iz1, iz2⟩ := info_parts Tryz.infoBool
 go_enter Tryz.func104, Tryz.ntmps104
 go_wp2_with fail
 go_loopw [5, 6] (fun l i wr => ∃ (m : Nat) (A : Option Addr) (c : Nat), m ≤ n ∧ i = .int .i64 (m : Nat) ∧ l = .slice A m c ∧ wr.ownsRow w.heap.size 4 1 (.slice A m c) m (bools (bitsOf v m)) ∧ Below w.heap.size w wr) (fun _ i _ => n - (intOf i).toNat)
 case atStart => exact ⟨0, none, 0, by omega, rfl, rfl, World.ownsRow_nil _ _ _ _, Below.refl _ _⟩
 case round =>
  obtain ⟨m, A, c, hm1, rfl, rfl, hown, hB⟩ := hrel
  have hsz := hB.size
  rcases Nat.lt_or_ge m n with hlt | hge
  ·have hlti : (m : Int) < (n : Int) := by omega
   have hm0 : (0 : Int) ≤ (m : Int) := by omega
   have hmw := wrap_one m (by omega)
   have hb := z2y v m hv
   have hm64 : min m 64 = m := by omega
   go_wp2_with (first
    | (at_builtin
       go_must (refine zaa _ rfl (.tmp 12) (.tmp 18) _ rfl w.heap.size 4 i0 _ 1 Tryz.underlying31 hi0 iz0 iz1 iz2 rfl (.slice A m c) m (bools (bitsOf v m)) rfl ?hown (some ⟨wr.heap.size, 0, none⟩) 1 1 [.bool (v.testBit m)] rfl ?hls rfl ?h1 ?h63 ?hby ?hbs _ rfl ?_)
       go_must (case hown => exact hown.alloc _)
       go_must (case hls => exact zc3 _ _ _ _ rfl)
       go_must (case h1 => simp [Value.oneCell'])
       go_must (case h63 => simp only [maxLen]; omega)
       go_must (case hby => omega)
       go_must (case hbs => simp; omega)
       intro A2 c2 w2 hown2 hgr2 hat2))
   have hB2 : Below w.heap.size w w2 := (hB.alloc hsz _).grown hgr2 (by simp; omega) (fun j hj => (hown.lt j hj).1)
   have hown3 : w2.ownsRow w.heap.size 4 1 (.slice A2 (m + 1) c2) (m + 1) (bools (bitsOf v (m + 1))) := by
    rw [zuv, zaj]; exact hown2
   clear hown2 hgr2 hat2
   go_roundw
   case rel => exact ⟨m + 1, A2, c2, by omega, by go_num, rfl, hown3, hB2⟩
   case measure => simp [intOf] <;> omega
  ·obtain rfl : m = n := by omega
   go_wp2_with fail
   go_ret
   exact ⟨A, c, rfl, hown, hB⟩
def zb6 (w : World) (base : Nat) (v1 : Value) (xs1 : List Bool) (v2 : Value) (xs2 : List Bool) : Prop :=
 w.ownsRow base 4 1 v1 xs1.length (bools xs1) ∧ w.ownsRow base 4 1 v2 xs2.length (bools xs2) ∧ ∀ k, v1.ownBlock = some k → v2.ownBlock ≠ some k
theorem zb6.symm {w : World} {base : Nat} {v1 v2 : Value} {xs1 xs2 : List Bool} (h : zb6 w base v1 xs1 v2 xs2) : zb6 w base v2 xs2 v1 xs1 := ⟨h.2.1, h.1, fun k h1 h2 => h.2.2 k h2 h1⟩
theorem zb6.below {w w' : World} {base : Nat} {v1 v2 : Value} {xs1 xs2 : List Bool} (h : zb6 w base v1 xs1 v2 xs2) (hb : Below w.heap.size w w') : zb6 w' base v1 xs1 v2 xs2 :=
 ⟨zac h.1 (Only.of_below (S := fun _ => False) hb) (fun _ _ => id), zac h.2.1 (Only.of_below (S := fun _ => False) hb) (fun _ _ => id), h.2.2⟩
theorem zb6.grow {w w' : World} {base : Nat} {v1 v2 v' : Value} {xs1 xs2 xs' : List Bool} (h : zb6 w base v1 xs1 v2 xs2) (hg : w.grownBy w' v1.ownBlock) (ho : w'.ownsRow base 4 1 v' xs'.length (bools xs')) (ha : v'.ownBlock = v1.ownBlock ∨ v'.ownBlock = some w.heap.size) : zb6 w' base v' xs' v2 xs2 := by
 refine ⟨ho, zac h.2.1 (Only.of_grown hg) (fun k h1 h2 => h.2.2 k h2.symm h1), fun k h1 h2 => ?_⟩
 have h3 := (h.2.1.lt k h2).2
 rcases ha with e | e
 ·exact h.2.2 k (e.symm.trans h1) h2
 ·rw [e] at h1; injection h1 with h1; omega
def lenS : Value → Nat
 | .slice _ n _ => n
 | _ => 0
theorem zvh (A : Option Addr) (c : Nat) (l : List Nat) (B : Nat) (w : World) (hl : Lst w A (zz l)) (hr : zas l B) (hf : Few l B) :
  Calls Tryz.prog 103 #[.slice A l.length c, .int .i64 (B : Nat)] w fun e w' => ∃ A1 c1 A2 c2, e = .returned (.tuple #[.slice A1 (l.length * wd l.length B) c1, .slice A2 (l.length + top l B) c2]) ∧
   Lst w' A1 (bools (lows (wd l.length B) l)) ∧ Lst w' A2 (bools (high (wd l.length B) (top l B) l)) ∧ Below w.heap.size w w' := by
 have hn := hf.1
 have hB1 := hr.1.1
 have hB2 := hr.1.2
 have HWD := hid (fun W => by have := ztq l.length (B : Nat) W (by omega) (by omega); rw [show ((B : Nat) : Int).toNat = B from Int.toNat_natCast B] at this; exact this)
 have hwd := zey l.length B hB2
 have htop : (B - 1) / 2 ^ wd l.length B ≤ 100000 := hf.2
 have ht : top l B = (B - 1) / 2 ^ wd l.length B + 1 := rfl
 have hup := hr.up (wd l.length B)
 have hla := hr.last (wd l.length B)
 have hx41 : ∀ x ∈ l, x < 1099511627776 := fun x hx => by have := hr.2.2 x hx; omega
 rw [ht]
 clear hf hr ht
 obtain ⟨q, hq⟩ : ∃ q, (B - 1) / 2 ^ wd l.length B = q := ⟨_, rfl⟩
 have hqI : ((B : Int) - 1) / 2 ^ wd l.length B = (q : Int) := by
  rw [← hq]
  have : (B : Int) - 1 = ((B - 1 : Nat) : Int) := by omega
  rw [this]; norm_cast
 rw [hq] at htop hla ⊢
 clear hq
 generalize wd l.length B = W at *
 obtain ⟨i0, hi0, iz0, iz1, iz2⟩ := info_parts Tryz.infoBool
 have hm64 : min W 64 = W := by omega
 have hBw : IntKind.i64.wrap ((B : Int) - 1) = (B : Int) - 1 := by rw [IntKind.wrap_i64]; omega
 have hW0 : (0 : Int) ≤ (W : Int) := by omega
 go_enter Tryz.func103, Tryz.ntmps103
 go_wp2_with fail
 (with_reducible refine (HWD.out _).mono ?_)
 rintro e w' ⟨rfl, rfl⟩
 go_wp2_with fail
 go_loopw [7, 8, 9, 10] (fun lv hv pv iv wr => ∃ (i : Nat) (A1 : Option Addr) (c1 : Nat) (A2 : Option Addr) (c2 : Nat), i ≤ l.length ∧ iv = .int .i64 (i : Nat) ∧ pv = .int .i64 (zu W 0 (l.take i) : Nat) ∧ lv = .slice A1 (lows W (l.take i)).length c1 ∧ hv = .slice A2 (hiL W 0 (l.take i)).length c2 ∧
  zb6 wr w.heap.size (.slice A1 (lows W (l.take i)).length c1) (lows W (l.take i)) (.slice A2 (hiL W 0 (l.take i)).length c2) (hiL W 0 (l.take i)) ∧ Below w.heap.size w wr) (fun _ _ _ iv _ => l.length - (intOf iv).toNat)
 case atStart => exact ⟨0, none, 0, none, 0, by omega, rfl, rfl, rfl, rfl, ⟨World.ownsRow_nil _ _ _ _, World.ownsRow_nil _ _ _ _, fun k h => by cases h⟩, Below.refl _ _⟩
 case round =>
  obtain ⟨i, A1, c1, A2, c2, hi, rfl, rfl, rfl, rfl, hown, hB⟩ := hrel
  have hsz := hB.size
  rcases Nat.lt_or_ge i l.length with hlt | hge
  ·have hii : (i : Int) < (l.length : Int) := by omega
   have hi00 : (0 : Int) ≤ (i : Int) := by omega
   have hiw := wrap_one i (by omega)
   obtain ⟨ab, ao, rfl, had, hcl⟩ := hl.lit (by rw [zc6]; omega)
   have k0 := fun W' (hW : Below w.heap.size w W') => (hW.cell (p := ⟨ab, ao + i, none⟩) had).trans (hcl i (.int .i64 (l[i] : Nat)) (by unfold zz; rw [List.getElem?_map, List.getElem?_eq_getElem hlt]; rfl))
   have KC := hid k0
   have htk : l.take (i + 1) = l.take i ++ [l[i]] := List.take_succ_eq_append_getElem hlt
   have hx := hx41 _ (List.getElem_mem hlt)
   have hspl : l = l.take i ++ l[i] :: l.drop (i + 1) := by rw [← List.drop_eq_getElem_cons hlt, List.take_append_drop]
   have hpu : zu W 0 (l.take i) ≤ l[i] / 2 ^ W := by
    rw [hspl, zbr] at hup
    exact hup.2.1
   have HL := hid (show lows W (l.take i) ++ bitsOf l[i] W = lows W (l.take (i + 1)) by
    rw [htk, zp1]
    congr 1
    apply ziw
    ·rw [zq, zq]
    ·intro j hj
     rw [zq] at hj
     rw [zcv, zcv, Nat.testBit_mod_two_pow, decide_eq_true hj]; simp)
   have HH := hid (show (hiL W 0 (l.take i) ++ List.replicate (l[i] / 2 ^ W - zu W 0 (l.take i)) false) ++ [true] = hiL W 0 (l.take (i + 1)) by rw [htk, zek]; simp [hiL])
   have HP := hid (show l[i] / 2 ^ W = zu W 0 (l.take (i + 1)) by rw [htk, zcg]; rfl)
   have hlT : l[i] / 2 ^ W ≤ q := by
    have h1 : UpL W (l[i] / 2 ^ W) (l.drop (i + 1)) := by rw [hspl, zbr] at hup; exact hup.2.2
    have h2 := zic W _ _ h1
    rw [hspl, zcg] at hla
    exact Nat.le_trans h2 hla
   have hlen1 : (lows W (l.take i)).length ≤ 480000 := by
    rw [zbk, List.length_take]
    have : min i l.length * W ≤ 12000 * 40 := Nat.mul_le_mul (by omega) hwd
    omega
   have hlen2 : (hiL W 0 (l.take i)).length ≤ 112000 := by
    have h1 : UpL W 0 (l.take i) := by rw [hspl, zbr] at hup; exact hup.1
    rw [zcq W _ 0 h1, List.length_take]; omega
   have HBI := hid (fun W' => zh3 l[i] W W' (by omega) (by omega))
   clear htk hspl hcl k0
   generalize l[i] = x at *
   have hqx : (x : Int) / 2 ^ W = ((x / 2 ^ W : Nat) : Int) := by norm_cast
   generalize hy : x / 2 ^ W = y at *
   generalize zu W 0 (l.take i) = p at *
   generalize lows W (l.take i) = lo at *
   generalize hiL W 0 (l.take i) = hi at *
   have k1 := KC.out _ hB
   clear hy
   go_wp2_with (first
    | (go_at_call 104
       refine (HBI.out _).mono ?_
       rintro e w1 ⟨A3, c3, rfl, hown3, hB1⟩)
    | (at_builtin
       go_must (refine zaa _ rfl (.tmp 22) (.tmp 28) _ rfl w.heap.size 4 i0 _ 1 Tryz.underlying31 hi0 iz0 iz1 iz2 rfl (.slice A1 lo.length c1) lo.length (bools lo) rfl ?hown A3 W c3 (bools (bitsOf x W)) rfl ?hls (by rw [zcx, zq]) (zho _) ?h63 ?hby ?hbs _ rfl ?_)
       go_must (case hown => exact (hown.below hB1).1)
       go_must (case hls => exact zbw hown3)
       go_must (case h63 => simp only [maxLen]; omega)
       go_must (case hby => omega)
       go_must (case hbs => have := hB1.size; omega)
       intro A4 c4 w2 hown2 hgr2 hat2)
    | fail)
   have hz1 := hB1.size
   have hlo' : (lows W (l.take (i + 1))).length = lo.length + W := by rw [← HL.out, List.length_append, zq]
   rw [← zaj, HL.out] at hown2
   have hB2 : Below w.heap.size w w2 := (hB.trans (hB1.mono hsz)).grown hgr2 (by omega) (fun j hj => (hown.1.lt j hj).1)
   have hown4 : zb6 w2 w.heap.size (.slice A4 (lo.length + W) c4) (lows W (l.take (i + 1))) (.slice A2 hi.length c2) hi := (hown.below hB1).grow hgr2 (by rw [hlo']; exact hown2) hat2
   clear hown hown2 hgr2 hat2 hown3 HL
   obtain ⟨lo2, hlo2⟩ : ∃ lo2, lo2 = lows W (l.take (i + 1)) := ⟨_, rfl⟩
   rw [← hlo2] at hlo' hown4
   have HLO := hid hlo2
   clear hlo2
   have hz2 := hB2.size
   clear hB1 hB hsz hz1
   generalize hLL : lo.length + W = LL at *
   clear hLL
   go_loopw [8, 9] (fun hv pv wr2 => ∃ (k : Nat) (A5 : Option Addr) (c5 : Nat), k ≤ y - p ∧ pv = .int .i64 (p + k : Nat) ∧ hv = .slice A5 (hi ++ List.replicate k false).length c5 ∧
    zb6 wr2 w.heap.size (.slice A4 LL c4) lo2 (.slice A5 (hi ++ List.replicate k false).length c5) (hi ++ List.replicate k false) ∧ Below w.heap.size w wr2) (fun _ pv _ => y - (intOf pv).toNat)
   case atStart => exact ⟨0, A2, c2, by omega, rfl, by simp, by simpa using hown4, hB2⟩
   case round =>
    obtain ⟨k, A5, c5, hk, rfl, rfl, hown5, hB5⟩ := hrel
    have k5 := KC.out _ hB5
    have hz5 := hB5.size
    have hlh : (hi ++ List.replicate k false).length = hi.length + k := by simp
    have HH2 := hid (show (hi ++ List.replicate k false) ++ [false] = hi ++ List.replicate (k + 1) false by rw [List.append_assoc, ← List.replicate_succ'])
    have HHK := hid (show k = y - p → (hi ++ List.replicate k false) ++ [true] = hiL W 0 (l.take (i + 1)) from fun e => by rw [e]; exact HH.out)
    generalize hh1 : hi ++ List.replicate k false = hi5 at *
    clear hh1
    have hlb : hi5.length ≤ 220000 := by omega
    clear hlh
    obtain ⟨P, hP⟩ : ∃ P, P = p + k := ⟨_, rfl⟩
    rw [← hP]
    have hPw := wrap_one P (by omega)
    rcases Nat.lt_or_ge P y with hlt2 | hge2
    ·have hPy : (P : Int) < (y : Int) := by omega
     have HPE := hid hP
     clear hP
     go_wp2_with (first
      | (at_builtin
         go_must (refine zaa _ rfl (.tmp 38) (.tmp 39) _ rfl w.heap.size 4 i0 _ 1 Tryz.underlying31 hi0 iz0 iz1 iz2 rfl (.slice A5 hi5.length c5) hi5.length (bools hi5) rfl ?hown (some ⟨wr.heap.size, 0, none⟩) 1 1 [.bool false] rfl ?hls rfl ?h1 ?h63 ?hby ?hbs _ rfl ?_)
         go_must (case hown => exact hown5.2.1.alloc _)
         go_must (case hls => exact zc3 _ _ _ _ rfl)
         go_must (case h1 => simp [Value.oneCell'])
         go_must (case h63 => simp only [maxLen]; omega)
         go_must (case hby => omega)
         go_must (case hbs => simp; omega)
         intro A6 c6 w6 hown6 hgr6 hat6)
      | fail)
     have hownA : zb6 (wr.alloc (.cells #[.bool false] 4)) w.heap.size (.slice A5 hi5.length c5) hi5 (.slice A4 LL c4) lo2 := hown5.symm.below ((Below.refl _ _).alloc (Nat.le_refl _) _)
     have hl6 : (hi5 ++ [false]).length = hi5.length + 1 := by simp
     have hown7 : zb6 w6 w.heap.size (.slice A6 (hi5.length + 1) c6) (hi5 ++ [false]) (.slice A4 LL c4) lo2 := hownA.grow hgr6 (by rw [hl6, zaj]; exact hown6) hat6
     have hB6 : Below w.heap.size w w6 := (hB5.alloc hz5 _).grown hgr6 (by simp; omega) (fun j hj => (hown5.2.1.lt j hj).1)
     rw [HH2.out] at hown7 hl6
     clear hown6 hgr6 hat6 hownA
     go_roundw
     case rel => exact ⟨k + 1, A6, c6, by have := HPE.out; omega, by have := HPE.out; rw [← Nat.add_assoc, ← this]; go_num, by rw [hl6], by rw [hl6]; exact hown7.symm, hB6⟩
     case measure => simp [intOf] <;> omega
    ·have hPy : ¬ ((P : Int) < (y : Int)) := by omega
     have hky : k = y - p := by omega
     have HPE := hid hP
     have HPY := hid (show P = y by omega)
     have HI := hid (HHK.out hky)
     clear hP hky HH2 HHK
     go_wp2_with (first
      | (at_builtin
         go_must (refine zaa _ rfl (.tmp 43) (.tmp 44) _ rfl w.heap.size 4 i0 _ 1 Tryz.underlying31 hi0 iz0 iz1 iz2 rfl (.slice A5 hi5.length c5) hi5.length (bools hi5) rfl ?hown (some ⟨wr.heap.size, 0, none⟩) 1 1 [.bool true] rfl ?hls rfl ?h1 ?h63 ?hby ?hbs _ rfl ?_)
         go_must (case hown => exact hown5.2.1.alloc _)
         go_must (case hls => exact zc3 _ _ _ _ rfl)
         go_must (case h1 => simp [Value.oneCell'])
         go_must (case h63 => simp only [maxLen]; omega)
         go_must (case hby => omega)
         go_must (case hbs => simp; omega)
         intro A6 c6 w6 hown6 hgr6 hat6)
      | fail)
     have hownA : zb6 (wr.alloc (.cells #[.bool true] 4)) w.heap.size (.slice A5 hi5.length c5) hi5 (.slice A4 LL c4) lo2 := hown5.symm.below ((Below.refl _ _).alloc (Nat.le_refl _) _)
     have hl6 : (hi5 ++ [true]).length = hi5.length + 1 := by simp
     have hown7 : zb6 w6 w.heap.size (.slice A6 (hi5.length + 1) c6) (hi5 ++ [true]) (.slice A4 LL c4) lo2 := hownA.grow hgr6 (by rw [hl6, zaj]; exact hown6) hat6
     have hB6 : Below w.heap.size w w6 := (hB5.alloc hz5 _).grown hgr6 (by simp; omega) (fun j hj => (hown5.2.1.lt j hj).1)
     rw [HI.out] at hown7 hl6
     clear hown6 hgr6 hat6 hownA
     go_wp2_with fail
     go_roundw
     case rel => exact ⟨i + 1, A4, c4, A6, c6, by omega, by go_num, by rw [HPY.out, HP.out], by rw [← HLO.out, hlo'], by rw [hl6], by rw [hl6, ← HLO.out, hlo']; exact hown7.symm, hB6⟩
     case measure => simp [intOf] <;> omega
  ·obtain rfl : i = l.length := by omega
   rw [List.take_length] at hown
   rw [List.take_length]
   have hki : ¬ ((l.length : Int) < (l.length : Int)) := by omega
   have hlen := zcq W l 0 hup
   have hll := zbk W l
   have HT := hid (show hiL W 0 l ++ List.replicate (q + 1 - zu W 0 l) false = high W (q + 1) l from rfl)
   have hbl : l.length * W ≤ 12000 * 40 := Nat.mul_le_mul hn hwd
   rw [hll] at hown
   generalize hLLE : l.length * W = LL at *
   generalize zu W 0 l = p at *
   generalize hLOE : lows W l = lo at *
   have HLLE := hid hLLE
   have HLOE := hid hLOE
   have HLEN := hid (show lo.length = LL from hll)
   clear hLLE hLOE
   obtain ⟨hi, hhi⟩ : ∃ hi, hi = hiL W 0 l := ⟨_, rfl⟩
   rw [← hhi] at hown hlen HT ⊢
   obtain ⟨N, hN⟩ : ∃ N, N = l.length + (q + 1) := ⟨_, rfl⟩
   have hNI : IntKind.i64.wrap ((l.length : Int) + (q : Int) + 1) = (N : Int) := by rw [IntKind.wrap_i64]; omega
   have hNJ : IntKind.i64.wrap ((l.length : Int) + (q : Int)) = (l.length : Int) + (q : Int) := by rw [IntKind.wrap_i64]; omega
   have HE := hid (show hi.length + (q + 1 - p) = N by omega)
   have hNb : N ≤ 112001 := by omega
   have HNX := hid hN
   obtain ⟨K, hK⟩ : ∃ K, K = q + 1 - p := ⟨_, rfl⟩
   rw [← hK] at HE HT
   clear hhi hN hlen hll hla hK
   go_wp2_with fail
   go_loopw [8] (fun hv wr2 => ∃ (k : Nat) (A5 : Option Addr) (c5 : Nat), k ≤ K ∧ hv = .slice A5 (hi.length + k) c5 ∧
    zb6 wr2 w.heap.size (.slice A1 LL c1) lo (.slice A5 (hi.length + k) c5) (hi ++ List.replicate k false) ∧ Below w.heap.size w wr2) (fun hv _ => N - lenS hv)
   case atStart => exact ⟨0, A2, c2, by omega, rfl, by simpa using hown, hB⟩
   case round =>
    obtain ⟨k, A5, c5, hk, rfl, hown5, hB5⟩ := hrel
    have hz5 := hB5.size
    have hlh : (hi ++ List.replicate k false).length = hi.length + k := by simp
    have HH2 := hid (show (hi ++ List.replicate k false) ++ [false] = hi ++ List.replicate (k + 1) false by rw [List.append_assoc, ← List.replicate_succ'])
    have HHK := hid (show k = K → hi ++ List.replicate k false = high W (q + 1) l from fun e => by rw [e]; exact HT.out)
    have HEE := hid (show k < K ↔ hi.length + k < N by have := HE.out; omega)
    obtain ⟨P, hP⟩ : ∃ P, P = hi.length + k := ⟨_, rfl⟩
    rw [← hP] at hown5 hlh HEE ⊢
    have HPE := hid hP
    generalize hh1 : hi ++ List.replicate k false = hi5 at *
    clear hh1 hP
    rcases Nat.lt_or_ge P N with hlt2 | hge2
    ·have hPy : (P : Int) < (N : Int) := by omega
     have hown5b : wr.ownsRow w.heap.size 4 1 (.slice A5 P c5) P (bools hi5) := by have := hown5.2.1; rwa [hlh] at this
     go_wp2_with (first
      | (at_builtin
         go_must (refine zaa _ rfl (.tmp 58) (.tmp 59) _ rfl w.heap.size 4 i0 _ 1 Tryz.underlying31 hi0 iz0 iz1 iz2 rfl (.slice A5 P c5) P (bools hi5) rfl ?hown (some ⟨wr.heap.size, 0, none⟩) 1 1 [.bool false] rfl ?hls rfl ?h1 ?h63 ?hby ?hbs _ rfl ?_)
         go_must (case hown => exact hown5b.alloc _)
         go_must (case hls => exact zc3 _ _ _ _ rfl)
         go_must (case h1 => simp [Value.oneCell'])
         go_must (case h63 => simp only [maxLen]; omega)
         go_must (case hby => omega)
         go_must (case hbs => simp; omega)
         intro A6 c6 w6 hown6 hgr6 hat6)
      | fail)
     have hownA : zb6 (wr.alloc (.cells #[.bool false] 4)) w.heap.size (.slice A5 P c5) hi5 (.slice A1 LL c1) lo := hown5.symm.below ((Below.refl _ _).alloc (Nat.le_refl _) _)
     have hl6 : (hi5 ++ [false]).length = P + 1 := by simp [hlh]
     have hown7 : zb6 w6 w.heap.size (.slice A6 (P + 1) c6) (hi5 ++ [false]) (.slice A1 LL c1) lo := hownA.grow hgr6 (by rw [hl6, zaj]; exact hown6) hat6
     have hB6 : Below w.heap.size w w6 := (hB5.alloc hz5 _).grown hgr6 (by simp; omega) (fun j hj => (hown5.2.1.lt j hj).1)
     rw [HH2.out] at hown7
     clear hown6 hgr6 hat6 hownA
     go_roundw
     case rel => exact ⟨k + 1, A6, c6, by have := HEE.out; omega, by rw [HPE.out, Nat.add_assoc], by rw [← Nat.add_assoc, ← HPE.out]; exact hown7.symm, hB6⟩
     case measure => simp [lenS]; omega
    ·have hPy : ¬ ((P : Int) < (N : Int)) := by omega
     have hown5b : wr.ownsRow w.heap.size 4 1 (.slice A5 P c5) P (bools hi5) := by have := hown5.2.1; rwa [hlh] at this
     have hPN : P = N := by have := HEE.out; have := HPE.out; have := HE.out; omega
     have hkK : k = K := by have := HEE.out; omega
     have HI := hid (HHK.out hkK)
     clear hkK
     go_wp2_with fail
     go_ret2
     have hq1 := hown5.1
     rw [HLEN.out] at hq1
     refine ⟨A1, c1, A5, ⟨c5, ?_⟩, by rw [HLOE.out]; exact zbw hq1, by rw [← HI.out]; exact zbw hown5b, hB5⟩
     show Ending.returned (.tuple #[.slice A1 lo.length c1, .slice A5 N c5]) = _
     rw [← HNX.out, HLLE.out, HLEN.out]
theorem zn2 (A : Option Addr) (c : Nat) (l : List Nat) (B : Nat) (w : World) (hl : Lst w A (zz l)) (hr : zas l B) (hf : Few l B) :
  Calls Tryz.prog 45 #[.slice A l.length c, .int .i64 (B : Nat)] w fun e w' => e = .returned (.string ⟨(zy (seqB (wd l.length B) (top l B) l B)).toArray⟩) ∧ Below w.heap.size w w' := by
 have HRW := hid (fun W (hW : Lst W A (zz l)) => zvh A c l B W hW hr hf)
 have hn := hf.1
 have hBb := hr.1
 have hwd := zey l.length B hr.1.2
 have htop : (B - 1) / 2 ^ wd l.length B ≤ 100000 := hf.2
 have ht : top l B = (B - 1) / 2 ^ wd l.length B + 1 := rfl
 have hup := hr.up (wd l.length B)
 have hla := hr.last (wd l.length B)
 have htb : top l B ≤ 100001 := by omega
 have hlt0 : zu (wd l.length B) 0 l ≤ top l B := by omega
 have hwl : l.length * wd l.length B ≤ 12000 * 40 := Nat.mul_le_mul hn hwd
 have hlo := zbk (wd l.length B) l
 have hhi := zdv (wd l.length B) (top l B) l hup hlt0
 have HS := hid (show ((bitsOf l.length 24 ++ bitsOf B 41) ++ lows (wd l.length B) l) ++ high (wd l.length B) (top l B) l = seqB (wd l.length B) (top l B) l B by unfold seqB; simp)
 clear hf hr htop ht hup hla hlt0
 generalize lows (wd l.length B) l = lo at *
 generalize high (wd l.length B) (top l B) l = hi at *
 generalize seqB (wd l.length B) (top l B) l B = sq at *
 generalize l.length * wd l.length B = LL at *
 generalize top l B = T at *
 obtain ⟨N, hN⟩ : ∃ N, N = l.length + T := ⟨_, rfl⟩
 rw [← hN] at HRW hhi
 have hNb : N ≤ 112001 := by omega
 clear hN
 have HB1 := hid (show ∀ W, Calls Tryz.prog 104 #[.int .i64 (l.length : Nat), .int .i64 24] W fun e w' => ∃ A c, e = .returned (.slice A 24 c) ∧ w'.ownsRow W.heap.size 4 1 (.slice A 24 c) 24 (bools (bitsOf l.length 24)) ∧ Below W.heap.size W w' from fun W => zh3 l.length 24 W (by omega) (by omega))
 have HB2 := hid (show ∀ W, Calls Tryz.prog 104 #[.int .i64 (B : Nat), .int .i64 41] W fun e w' => ∃ A c, e = .returned (.slice A 41 c) ∧ w'.ownsRow W.heap.size 4 1 (.slice A 41 c) 41 (bools (bitsOf B 41)) ∧ Below W.heap.size W w' from fun W => zh3 B 41 W (by omega) (by omega))
 have hlx1 : (bitsOf l.length 24).length = 24 := zq _ _
 have hlx2 : (bitsOf B 41).length = 41 := zq _ _
 generalize bitsOf l.length 24 = b1 at *
 generalize bitsOf B 41 = b2 at *
 obtain ⟨i0, hi0, iz0, iz1, iz2⟩ := info_parts Tryz.infoBool
 go_enter Tryz.func45, Tryz.ntmps45
 go_wp2_with fail
 refine (HRW.out _ hl).mono ?_
 rintro e w1 ⟨A1, c1, A2, c2, rfl, hl1, hl2, hB1⟩
 have hz1 := hB1.size
 go_wp2_with fail
 (with_reducible refine (HB1.out _).mono ?_)
 rintro e w2 ⟨A3, c3, rfl, hown3, hB2⟩
 have hz2 := hB2.size
 go_wp2_with fail
 (with_reducible refine (HB2.out _).mono ?_)
 rintro e w3 ⟨A4, c4, rfl, hown4, hB3⟩
 have hz3 := hB3.size
 have hB13 := hB2.trans (hB3.mono hz2)
 have hown33 := zac hown3 (Only.of_below (S := fun _ => False) hB3) (fun _ _ => id)
 go_wp2_with (first
  | (at_builtin
     refine zaa _ rfl (.tmp 16) (.tmp 18) _ rfl w1.heap.size 4 i0 _ 1 Tryz.underlying31 hi0 iz0 iz1 iz2 rfl (.slice A3 24 c3) 24 (bools b1) rfl ?hown A4 41 c4 (bools b2) rfl ?hls (by rw [zcx, hlx2]) (zho _) ?h63 ?hby ?hbs _ rfl ?_
     go_must (case hown => exact hown33)
     go_must (case hls => exact zbw hown4)
     go_must (case h63 => simp only [maxLen]; omega)
     go_must (case hby => omega)
     go_must (case hbs => omega)
     intro A5 c5 w5 hown5 hgr5 hat5
     have hB15 := hB13.grown hgr5 (by omega) (fun j hj => (hown33.lt j hj).1)
     have hz5 := hB15.size
     have hl15 := hl1.below hB15
     rw [← zaj] at hown5
     have hlx12 : (b1 ++ b2).length = 65 := by rw [List.length_append, hlx1, hlx2]
     generalize b1 ++ b2 = b12 at *
     clear hown33 hown3 hown4 hgr5 hat5 hB2 hB3 hB13)
  | (at_builtin
     refine zaa _ rfl (.tmp 20) (.tmp 21) _ rfl w1.heap.size 4 i0 _ 1 Tryz.underlying31 hi0 iz0 iz1 iz2 rfl (.slice A5 65 c5) 65 (bools b12) rfl ?hown A1 LL c1 (bools lo) rfl ?hls (by rw [zcx, hlo]) (zho _) ?h63 ?hby ?hbs _ rfl ?_
     go_must (case hown => exact hown5)
     go_must (case hls => exact hl15)
     go_must (case h63 => simp only [maxLen]; omega)
     go_must (case hby => omega)
     go_must (case hbs => omega)
     intro A6 c6 w6 hown6 hgr6 hat6
     have hB16 := hB15.grown hgr6 (by omega) (fun j hj => (hown5.lt j hj).1)
     have hz6 := hB16.size
     have hl26 := hl2.below hB16
     rw [← zaj] at hown6
     have hlx3 : (b12 ++ lo).length = 65 + LL := by rw [List.length_append, hlx12, hlo]
     generalize b12 ++ lo = b13 at *
     clear hown5 hgr6 hat6 hB15)
  | (at_builtin
     go_must (refine zaa _ rfl (.tmp 23) (.tmp 24) _ rfl w1.heap.size 4 i0 _ 1 Tryz.underlying31 hi0 iz0 iz1 iz2 rfl (.slice A6 (65 + LL) c6) (65 + LL) (bools b13) rfl ?hown A2 N c2 (bools hi) rfl ?hls (by rw [zcx, hhi]) (zho _) ?h63 ?hby ?hbs _ rfl ?_)
     go_must (case hown => exact hown6)
     go_must (case hls => exact hl26)
     go_must (case h63 => simp only [maxLen]; omega)
     go_must (case hby => omega)
     go_must (case hbs => omega)
     intro A7 c7 w7 hown7 hgr7 hat7
     have hB17 := hB16.grown hgr7 (by omega) (fun j hj => (hown6.lt j hj).1)
     have hz7 := hB17.size
     rw [← zaj] at hown7
     have hlx4 : (b13 ++ hi).length = 65 + LL + N := by rw [List.length_append, hlx3, hhi])
  | fail)
 have hBB := hB1.trans (hB17.mono hz1)
 have hzB := hBB.size
 have HRB := zkf A7 c7 (b13 ++ hi) w7 (zbw hown7) (by omega)
 rw [hlx4, HS.out] at HRB
 clear hown6 hown7
 refine HRB.mono ?_
 rintro e w8 ⟨rfl, hB8⟩
 go_wp2_with fail
 go_ret
 exact ⟨rfl, hBB.trans (hB8.mono hzB)⟩
end Go.Proofs.YtgpbpgpolpakjaaGreatDoor
