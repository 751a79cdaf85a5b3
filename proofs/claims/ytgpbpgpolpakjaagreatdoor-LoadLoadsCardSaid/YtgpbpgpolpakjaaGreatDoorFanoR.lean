/- Proof text. -/
import Derived.Test.YtgpbpgpolpakjaaGreatDoorFanoQ
import Derived.Test.YtgpbpgpolpakjaaGreatDoorBitsQ
set_option maxHeartbeats 2000000
set_option linter.unusedVariables false
set_option linter.unusedSimpArgs false
set_option maxRecDepth 100000
namespace Go.Proofs.YtgpbpgpolpakjaaGreatDoor
open Go.RowKit Go.Shelf L
def L.zcd (x : List Bool) (l : List Nat) (B : Nat) : Prop := zas l B ∧ l.length < 16777216 ∧ x = seqB (wd l.length B) (top l B) l B
def L.told (x : List Bool) (n B : Nat) : List Nat := gl (wd n B) ((x.drop 65).take (n * wd n B)) 0 0 (x.drop (65 + n * wd n B))
theorem L.zn9 {W T : Nat} {l : List Nat} (h : UpL W 0 l) : (high W T l).count true = l.length := by
 unfold high
 rw [List.count_append, (zfa W l 0 h).1, List.count_replicate]
 simp
theorem L.zcd.parts {x : List Bool} {l : List Nat} {B : Nat} (h : zcd x l B) :
  fld x 0 24 = l.length ∧ fld x 24 41 = B ∧ x.length = 65 + l.length * wd l.length B + (l.length + ((B - 1) / 2 ^ wd l.length B + 1)) ∧ (x.drop (65 + l.length * wd l.length B)).count true = l.length ∧ l = told x l.length B := by
 obtain ⟨hr, hn, rfl⟩ := h
 have hup := hr.up (wd l.length B)
 have hla := hr.last (wd l.length B)
 have h1 := z7p (wd l.length B) (top l B) l B hn
 have h2 := z7q (wd l.length B) (top l B) l B hr.1.2
 have h3 := zeu (wd l.length B) (top l B) l B hup (by unfold top; omega)
 have h4 := z5m (wd l.length B) (top l B) l B
 have h5 : ((seqB (wd l.length B) (top l B) l B).drop (65 + l.length * wd l.length B)).count true = l.length := by rw [h4]; exact zn9 hup
 refine ⟨h1, h2, h3, h5, ?_⟩
 have h6 := zv8 (wd l.length B) (top l B) (seqB (wd l.length B) (top l B) l B) l.length B h1 h2 h3 h5
 exact z1s (T := top l B) hup h6.2.2.1 h6.1.symm ((z5l _ _ _ _).symm.trans h6.2.2.2.2.2.symm) (h4.symm.trans h6.2.2.2.2.1.symm)
theorem L.zyd {x : List Bool} {n B : Nat} (hn : fld x 0 24 = n) (hB : fld x 24 41 = B) (hl : x.length = 65 + n * wd n B + (n + ((B - 1) / 2 ^ wd n B + 1))) (hc : (x.drop (65 + n * wd n B)).count true = n) :
  (told x n B).length = n ∧ UpL (wd n B) 0 (told x n B) ∧ zu (wd n B) 0 (told x n B) ≤ (B - 1) / 2 ^ wd n B + 1 ∧ high (wd n B) ((B - 1) / 2 ^ wd n B + 1) (told x n B) = x.drop (65 + n * wd n B) ∧ lows (wd n B) (told x n B) = (x.drop 65).take (n * wd n B) ∧ (zas (told x n B) B → zcd x (told x n B) B) := by
 have h := zv8 (wd n B) ((B - 1) / 2 ^ wd n B + 1) x n B hn hB hl hc
 have hnn : n < 16777216 := by rw [← hn]; exact zes _ _ _
 refine ⟨h.1, h.2.2.1, h.2.2.2.1, h.2.2.2.2.1, h.2.2.2.2.2, fun hr => ⟨hr, by rw [show (told x n B).length = n from h.1]; exact hnn, ?_⟩⟩
 have e : (told x n B).length = n := h.1
 unfold top
 rw [e]
 exact h.2.1
theorem L.zcd.uniq {x : List Bool} {l m : List Nat} {B C : Nat} (h : zcd x l B) (h' : zcd x m C) : l = m ∧ B = C := by
 have p := h.parts
 have p' := h'.parts
 have e1 : l.length = m.length := p.1.symm.trans p'.1
 have e2 : B = C := p.2.1.symm.trans p'.2.1
 refine ⟨?_, e2⟩
 rw [p.2.2.2.2, p'.2.2.2.2, e1, e2]
theorem L.zvm {l m : List Nat} (h : l.map (fun x : Nat => (x : Int)) = m.map (fun x : Nat => (x : Int))) : l = m :=
 (List.map_inj_right (fun (a b : Nat) (e : (a : Int) = (b : Int)) => by omega)).1 h
theorem L.ztz {l : List Nat} {B : Nat} (hB : 1 ≤ B ∧ B ≤ 1099511627776) (hn : l.length < 16777216) : zb4 0 B (l.map (fun x : Nat => (x : Int))) = true ↔ zas l B := by
 constructor
 ·intro h
  obtain ⟨m, hm, h1, h2⟩ := zny _ 0 B (Int.le_refl _) h
  obtain rfl := zvm hm
  exact ⟨hB, h1, fun x hx => by have := h2 x hx; omega⟩
 ·intro h
  exact (h.z hn).2
theorem L.z6y {x : List Bool} {n B : Nat} (hT : zu (wd n B) 0 (told x n B) ≤ 100001) (hu : UpL (wd n B) 0 (told x n B)) (hw : wd n B ≤ 40) : ∀ y ∈ told x n B, y < 4611686018427387904 := by
 intro y hy
 obtain ⟨l1, l2, e⟩ := List.append_of_mem hy
 rw [e, zcg] at hT
 rw [e, zbr] at hu
 have h2 : UpL (wd n B) (y / 2 ^ wd n B) l2 := hu.2.2
 have h1 := zic (wd n B) l2 _ h2
 have h3 : y / 2 ^ wd n B ≤ 100001 := Nat.le_trans h1 hT
 have h4 : 2 ^ wd n B ≤ 2 ^ 40 := Nat.pow_le_pow_right (by omega) hw
 have h5 := Nat.div_add_mod y (2 ^ wd n B)
 have h6 := Nat.mod_lt y (Nat.two_pow_pos (wd n B))
 have h7 : 2 ^ wd n B * (y / 2 ^ wd n B) ≤ 2 ^ 40 * 100001 := Nat.mul_le_mul h4 h3
 omega
theorem zvn (s n B W gl gx : Nat) (gc gd : Nat) (A : Option Addr) (c : Nat) (hi : List Bool) (Ad : Option Addr) (cd : Nat) (A1 : Option Addr) (c1 : Nat) (l1 : List Nat) (A0 : Option Addr) (c0 : Nat) (l0 : List Nat) (N : Nat) (w : World)
  (hb : za w s 146 #[.int .i64 (n : Nat), .int .i64 (B : Nat), .int .i64 (W : Nat), .pointer (some ⟨gl, 0, none⟩), .pointer (some ⟨gc, 0, none⟩), .int .i64 (N : Nat)]) (hc : zab w gc gd gx A c hi Ad cd A1 c1 l1 A0 c0 l0) (hne : hi.count true ≠ n) :
  Calls Tryz.prog 140 #[.pointer (some ⟨s, 0, none⟩)] w fun e w' => e = .returned (.bool false) ∧ Below w.heap.size w w' := by
 have k0 : w.cell? ⟨s, 0, none⟩ = some (.int .i64 (n : Nat)) := hb.cell 0
 have k4 : w.cell? ⟨s, 4, none⟩ = some (.pointer (some ⟨gc, 0, none⟩)) := hb.cell 4
 have hsl := hb.lt
 have HO := hid (fun W hc => zi2 gc gd gx A c hi Ad cd A1 c1 l1 A0 c0 l0 W hc)
 have hkc : kc true hi hi.length = hi.count true := by rw [ziz, List.take_length]
 rw [hkc] at HO
 have hne' : ((hi.count true : Nat) : Int) ≠ (n : Int) := by omega
 generalize hi.count true = m at *
 have hbq : ((m : Int) == (n : Int)) = false := beq_eq_false_iff_ne.2 hne'
 clear hkc
 go_enter Tryz.func140, Tryz.ntmps140
 go_wp2_with fail
 go_quiet ((go_at_call 109; exact zax (HO.out _ (by exact hc))))
 go_wp2_with fail
 go_ret
 exact ⟨rfl, below_drewN (Below.refl _ _) _⟩
theorem z0y (s : Nat) (l : List Nat) (B : Nat) (w : World) (hs : za4 w s l B) (hT : Tab w) (hB1 : 1 ≤ B) (hB2 : B ≤ 1099511627776) (hup : UpL (wd l.length B) 0 l) (hx : ∀ y ∈ l, y < 4611686018427387904) (hf : Few l B) :
  Calls Tryz.prog 140 #[.pointer (some ⟨s, 0, none⟩)] w fun e w' => ∃ ok, e = .returned (.bool ok) ∧ Below w.heap.size w w' ∧ (ok = true ↔ zas l B) := by
 have HG := hid (fun i (hi : i < l.length) W (hW : Below w.heap.size w W) => ztg s l B i W (hs.below hW) (hT.below hW) hB2 hup hi (hx _ (List.getElem_mem hi)) hf)
 have hn := hf.1
 have HRO := hid (ztz (l := l) ⟨hB1, hB2⟩ (by omega))
 have hcnt : (high (wd l.length B) (top l B) l).count true = l.length := zn9 hup
 obtain ⟨gl, Al, cl, gc, gd, gx, A, c, Ad, cd, A1, c1, l1, A0, c0, l0, hb, hl, hc⟩ := hs
 have k0 : w.cell? ⟨s, 0, none⟩ = some (.int .i64 (l.length : Nat)) := hb.cell 0
 have k1 : w.cell? ⟨s, 1, none⟩ = some (.int .i64 (B : Nat)) := hb.cell 1
 have k4 : w.cell? ⟨s, 4, none⟩ = some (.pointer (some ⟨gc, 0, none⟩)) := hb.cell 4
 have hsl := hb.lt
 have HO := hid (fun W hc => zi2 gc gd gx A c (high (wd l.length B) (top l B) l) Ad cd A1 c1 l1 A0 c0 l0 W hc)
 have hkc : kc true (high (wd l.length B) (top l B) l) (high (wd l.length B) (top l B) l).length = l.length := by rw [ziz, List.take_length, hcnt]
 rw [hkc] at HO
 clear hkc hcnt hb hl hf hx
 obtain ⟨zs, hzs⟩ : ∃ zs, zs = l.map (fun x : Nat => (x : Int)) := ⟨_, rfl⟩
 have hzl : zs.length = l.length := by rw [hzs, List.length_map]
 have HZ := hid (fun i (hi : i < l.length) => show zs[i]'(by omega) = ((l[i] : Nat) : Int) by subst hzs; rw [List.getElem_map])
 rw [← hzs] at HRO
 clear hzs
 go_enter Tryz.func140, Tryz.ntmps140
 go_wp2_with fail
 go_quiet ((go_at_call 109; exact zax (HO.out _ (by exact hc))))
 go_wp2_with fail
 go_loopw [3, 20] (fun lv iv wr => ∃ (last i : Nat), lv = .int .i64 (last : Nat) ∧ iv = .int .i64 (i : Nat) ∧ i ≤ l.length ∧ (zb4 0 B zs = zb4 (last : Nat) B (zs.drop i)) ∧ Below w.heap.size w wr) (fun _ iv _ => l.length - (intOf iv).toNat)
 case atStart => exact ⟨0, 0, rfl, rfl, by omega, rfl, below_drewN (Below.refl _ _) _⟩
 case round =>
  obtain ⟨last, i, rfl, rfl, hi, hok, hB⟩ := hrel
  have HOK := hid hok
  have hzr := hB.size
  clear hok
  rcases Nat.lt_or_ge i l.length with hlt | hge
  ·have hii : (i : Int) < (l.length : Int) := by omega
   have hi0 : (0 : Int) ≤ (i : Int) := by omega
   have hiW := wrap_one i (by omega)
   have HD := hid (show zb4 (last : Nat) B (zs.drop i) = (decide (((last : Nat) : Int) ≤ (l[i] : Nat)) && decide (((l[i] : Nat) : Int) < B) && zb4 ((l[i] : Nat) : Int) B (zs.drop (i + 1))) by rw [List.drop_eq_getElem_cons (by omega), ← HZ.out i hlt]; rfl)
   have hG := HG.out i hlt wr hB
   have HG1 := hid hG
   generalize l[i] = x at *
   have k1r := (hB.cell (p := ⟨s, 1, none⟩) hsl).trans k1
   clear hG
   by_cases h1 : last ≤ x
   ·have j1 : decide ((x : Int) < (last : Int)) = false := decide_eq_false (by omega)
    by_cases h2 : x < B
    ·have j2 : decide ((x : Int) ≥ (B : Int)) = false := decide_eq_false (by omega)
     have HN := hid (show zb4 0 B zs = zb4 (x : Nat) B (zs.drop (i + 1)) by rw [HOK.out, HD.out, decide_eq_true (show ((last : Nat) : Int) ≤ (x : Nat) by omega), decide_eq_true (show ((x : Nat) : Int) < B by omega)]; rfl)
     have j1N : ¬ x < last := by omega
     have j2N : ¬ B ≤ x := by omega
     go_wp2_with fail
     refine (HG1.out).mono ?_
     rintro e w1 ⟨rfl, hB1⟩
     have hBd := hB.trans (hB1.mono hzr)
     have k1d := (hBd.cell (p := ⟨s, 1, none⟩) hsl).trans k1
     go_wp2_with fail
     go_roundw
     case rel => exact ⟨x, i + 1, rfl, by go_num, by omega, HN.out, hBd⟩
     case measure => simp [intOf]; omega
    ·have j2 : decide ((x : Int) ≥ (B : Int)) = true := decide_eq_true (by omega)
     have HN := hid (show ¬ zas l B from fun h => by have := HRO.out.2 h; rw [HOK.out, HD.out, decide_eq_false (show ¬ ((x : Nat) : Int) < B by omega)] at this; simp at this)
     have j1N : ¬ x < last := by omega
     have j2N : B ≤ x := by omega
     go_wp2_with fail
     refine (HG1.out).mono ?_
     rintro e w1 ⟨rfl, hB1⟩
     have hBd := hB.trans (hB1.mono hzr)
     have k1d := (hBd.cell (p := ⟨s, 1, none⟩) hsl).trans k1
     go_wp2_with fail
     go_ret
     first | exact ⟨false, rfl, hBd, (fun h => by cases h), (fun h => absurd h HN.out)⟩ | exact Or.inl ⟨rfl, hBd, HN.out⟩
   ·have j1 : decide ((x : Int) < (last : Int)) = true := decide_eq_true (by omega)
    have HN := hid (show ¬ zas l B from fun h => by have := HRO.out.2 h; rw [HOK.out, HD.out, decide_eq_false (show ¬ ((last : Nat) : Int) ≤ (x : Nat) by omega)] at this; simp at this)
    have j1N : x < last := by omega
    go_wp2_with fail
    refine (HG1.out).mono ?_
    rintro e w1 ⟨rfl, hB1⟩
    have hBd := hB.trans (hB1.mono hzr)
    go_wp2_with fail
    go_ret
    first | exact ⟨false, rfl, hBd, (fun h => by cases h), (fun h => absurd h HN.out)⟩ | exact Or.inl ⟨rfl, hBd, HN.out⟩
  ·obtain rfl : i = l.length := by omega
   have hki : ¬ ((l.length : Int) < (l.length : Int)) := by omega
   have HN := hid (show zas l B from HRO.out.1 (by rw [HOK.out, ← hzl, List.drop_length]; rfl))
   go_wp2_with fail
   go_ret
   first | exact ⟨true, rfl, hB, (fun _ => HN.out), (fun _ => rfl)⟩ | exact Or.inr ⟨rfl, hB, HN.out⟩
theorem zt0 (g : Nat) (A : Option Addr) (c : Nat) (bs : List Bool) (a b : Nat) (w : World) (hr : zo w g A c bs) (hab : a ≤ b) (hb : b ≤ bs.length) :
  Calls Tryz.prog 139 #[.pointer (some ⟨g, 0, none⟩), .int .i64 (a : Nat), .int .i64 (b : Nat)] w (zkc w ((bs.drop a).take (b - a))) := by
 have h := z18 g A c bs (a : Nat) (b : Nat) w hr
 have e1 : zfj bs.length (a : Nat) = a := by unfold zfj; omega
 have e2 : zgt bs.length (a : Nat) (b : Nat) = b := by unfold zgt; rw [e1]; omega
 rwa [e1, e2] at h
def zpf (l : List UInt8) (w : World) (e : Ending) (w' : World) : Prop :=
 Below w.heap.size w w' ∧ ((∃ s m B, e = .returned (.tuple #[.pointer (some ⟨s, 0, none⟩), .int .i64 0]) ∧ za4 w' s m B ∧ Few m B ∧ zcj l ∧ zcd (zcb l (valL l)) m B) ∨ (e = .returned (.tuple #[.pointer none, .int .i64 3]) ∧ (zcj l → ∀ m B, ¬ zcd (zcb l (valL l)) m B)))
theorem z6z (t : ByteArray) (w : World) (hs : t.size ≤ 1450) (hT : Tab w) :
  Calls Tryz.prog 91 #[.string t] w (zpf t.data.toList w) := by
 have HOF := hid (z0g t w (by omega))
 have hlen : t.data.toList.length = t.size := by rw [Array.length_toList]; rfl
 generalize t.data.toList = l at *
 have HP := hid (show ∀ e w', Below w.heap.size w w' → e = .returned (.tuple #[.pointer none, .int .i64 3]) → (zcj l → ∀ m B, ¬ zcd (zcb l (valL l)) m B) → zpf l w e w' from fun e w' h1 h2 h3 => ⟨h1, Or.inr ⟨h2, h3⟩⟩)
 have HQ := hid (show ∀ e w' s m B, Below w.heap.size w w' → e = .returned (.tuple #[.pointer (some ⟨s, 0, none⟩), .int .i64 0]) → za4 w' s m B → Few m B → zcj l → zcd (zcb l (valL l)) m B → zpf l w e w' from fun e w' s m B h1 h2 h3 h4 h5 h6 => ⟨h1, Or.inl ⟨s, m, B, h2, h3, h4, h5, h6⟩⟩)
 go_enter Tryz.func91, Tryz.ntmps91
 go_wp2_with fail
 refine (HOF.out).mono ?_
 rintro e w1 ⟨hB1, ⟨hgood, g, A, c, rfl, hr1⟩ | ⟨hbad, rfl⟩⟩
 case inr =>
  go_wp2_with fail
  go_ret2
  exact HP.out _ _ hB1 rfl (fun h => absurd h hbad)
 have hz1 := hB1.size
 have hxl : (zcb l (valL l)).length ≤ 11600 := by
  rw [zcf]
  have := hgood.2.2.1
  unfold zh at this
  omega
 have HGD := hid hgood
 clear HOF hgood hlen
 obtain ⟨x, hx⟩ : ∃ x, x = zcb l (valL l) := ⟨_, rfl⟩
 rw [← hx] at HP HQ hr1 hxl
 clear hx
 have hlx : ∀ W, zo W g A c x → W.cell? ⟨g, 1, none⟩ = some (.int .i64 (x.length : Nat)) := fun W h => h.cells.2
 by_cases h65 : x.length < 65
 ·have HN := hid (show ∀ m B, ¬ zcd x m B from fun m B h => by have := h.parts.2.2.1; generalize (B - 1) / 2 ^ wd m.length B = q at this; generalize m.length * wd m.length B = r at this; omega)
  have hR2 := zg7 g A c x 24 41 w1 hr1 (by omega) (by omega) (Or.inr (by omega))
  have HR2 := hid (fun W (h : zo W g A c x) => zg7 g A c x 24 41 W h (by omega) (by omega) (Or.inr (by omega)))
  by_cases h24 : x.length < 24
  ·have HR1 := hid (zg7 g A c x 0 24 w1 hr1 (by omega) (by omega) (Or.inr (by omega)))
   clear hR2
   go_wp2_with fail
   refine (HR1.out).mono ?_
   rintro e w' ⟨rfl, rfl⟩
   go_wp2_with fail
   refine (HR2.out _ hr1).mono ?_
   rintro e w' ⟨rfl, rfl⟩
   go_wp2_with fail
   go_ret2
   exact HP.out _ _ hB1 rfl (fun _ => HN.out)
  ·have HR1 := hid (zgd g A c x 0 24 w1 hr1 (by omega) (by omega))
   clear hR2
   generalize fld x 0 24 = n at *
   go_wp2_with fail
   refine (HR1.out).mono ?_
   rintro e w' ⟨rfl, m1, rfl⟩
   go_wp2_with fail
   refine (HR2.out _ (by exact hr1)).mono ?_
   rintro e w' ⟨rfl, rfl⟩
   go_wp2_with fail
   go_ret2
   exact HP.out _ _ (below_drewN hB1 _) rfl (fun _ => HN.out)
 have HR1 := hid (zgd g A c x 0 24 w1 hr1 (by omega) (by omega))
 have HR2 := hid (fun W (h : zo W g A c x) => zgd g A c x 24 41 W h (by omega) (by omega))
 obtain ⟨n, hn⟩ : ∃ n, fld x 0 24 = n := ⟨_, rfl⟩
 obtain ⟨B, hB⟩ : ∃ B, fld x 24 41 = B := ⟨_, rfl⟩
 have hn24 : n < 16777216 := by rw [← hn]; exact zes _ _ _
 have hB41 : B < 2199023255552 := by rw [← hB]; exact zes _ _ _
 rw [hn] at HR1
 rw [hB] at HR2
 have HNB := hid (show ∀ m C, zcd x m C → m.length = n ∧ C = B ∧ zas m C from fun m C h => ⟨h.parts.1.symm.trans hn, h.parts.2.1.symm.trans hB, h.1⟩)
 go_wp2_with fail
 refine (HR1.out).mono ?_
 rintro e w' ⟨rfl, m1, rfl⟩
 go_wp2_with fail
 refine (HR2.out _ (by exact hr1)).mono ?_
 rintro e w' ⟨rfl, m2, rfl⟩
 have hBx : Below w.heap.size w ((w1.drewN m1).drewN m2) := below_drewN (below_drewN hB1 _) _
 have hrx : zo ((w1.drewN m1).drewN m2) g A c x := hr1
 clear hr1 HR1 HR2 hB1 hz1
 generalize (w1.drewN m1).drewN m2 = w2 at *
 have hz2 := hBx.size
 by_cases hb1 : B < 1
 ·have j1 : decide ((B : Int) < 1) = true := decide_eq_true (by omega)
  have HN := hid (show ∀ m C, ¬ zcd x m C from fun m C h => by have := HNB.out m C h; have := this.2.2.1; omega)
  clear hB
  obtain rfl : B = 0 := by omega
  go_wp2_with fail
  go_ret2
  exact HP.out _ _ hBx rfl (fun _ => HN.out)
 have j1 : decide ((B : Int) < 1) = false := decide_eq_false (by omega)
 have j1N : ¬ B = 0 := by omega
 have j1M : ¬ B < 1 := by omega
 by_cases hb2 : 1099511627776 < B
 ·have j2 : decide ((B : Int) > 1099511627776) = true := decide_eq_true (by omega)
  have HN := hid (show ∀ m C, ¬ zcd x m C from fun m C h => by have := HNB.out m C h; have := this.2.2.1; omega)
  go_wp2_with fail
  go_ret2
  exact HP.out _ _ hBx rfl (fun _ => HN.out)
 have j2 : decide ((B : Int) > 1099511627776) = false := decide_eq_false (by omega)
 have j2N : ¬ 1099511627776 < B := hb2
 have hnw : IntKind.i64.wrap (n : Int) = (n : Int) := by rw [IntKind.wrap_i64]; omega
 have hBw : IntKind.i64.wrap (B : Int) = (B : Int) := by rw [IntKind.wrap_i64]; omega
 have HWD := hid (fun W => zkq n B W (by omega) (by omega))
 have hwd := zey n B (by omega)
 have HHB := hid (fun W => zkr n B (wd n B) W (by omega) (by omega) (by omega) hwd)
 have HBU := hid (fun gl gx Al cl low A c hi W hl hh => zqg n B gl gx Al cl low A c hi W (by omega) (by omega) hl hh)
 have HPR := hid (fun hl hc => zyd hn hB hl hc)
 have HPS := hid (fun m C (h : zcd x m C) => show x.length = 65 + n * wd n B + (n + ((B - 1) / 2 ^ wd n B + 1)) ∧ (x.drop (65 + n * wd n B)).count true = n ∧ m = told x n B ∧ zas m B from by
  have p := h.parts
  have q := HNB.out m C h
  obtain ⟨q1, rfl, q3⟩ := q
  rw [q1] at p
  exact ⟨p.2.2.1, p.2.2.2.1, p.2.2.2.2, q3⟩)
 have hqB : (B - 1) / 2 ^ wd n B ≤ 1099511627776 := Nat.le_trans (Nat.div_le_self _ _) (by omega)
 have hMn : n * wd n B ≤ 16777216 * 40 := Nat.mul_le_mul (by omega) hwd
 obtain ⟨M, hM⟩ : ∃ M, n * wd n B = M := ⟨_, rfl⟩
 obtain ⟨q, hq⟩ : ∃ q, (B - 1) / 2 ^ wd n B = q := ⟨_, rfl⟩
 have hMI : (n : Int) * (wd n B : Int) = (M : Int) := by rw [← hM]; norm_cast
 rw [hM, hq] at HPR HPS
 rw [hq] at HHB hqB
 rw [hM] at hMn
 have HMQ := hid (show n * wd n B = M ∧ (B - 1) / 2 ^ wd n B = q from ⟨hM, hq⟩)
 clear hM hq hn hB HNB
 have HTS := hid (show ∀ W s m, m.length = n → (∃ gl Al cl gc gd gx A c Ad cd A1 c1 l1 A0 c0 l0, za W s 146 #[.int .i64 (n : Nat), .int .i64 (B : Nat), .int .i64 (wd n B : Nat), .pointer (some ⟨gl, 0, none⟩), .pointer (some ⟨gc, 0, none⟩), .int .i64 (n + (q + 1) : Nat)] ∧
  zo W gl Al cl (lows (wd n B) m) ∧ zab W gc gd gx A c (high (wd n B) (q + 1) m) Ad cd A1 c1 l1 A0 c0 l0) → za4 W s m B from fun W s m hm h => by
   subst hm
   unfold za4
   rw [show top m B = q + 1 by unfold top; rw [HMQ.out.2]]
   exact h)
 have HFW := hid (show ∀ m, m.length = n → n ≤ 12000 → q ≤ 100000 → Few m B from fun m hm h1 h2 => by
  subst hm
  exact ⟨h1, by rw [HMQ.out.2]; exact h2⟩)
 have HUP := hid (show ∀ m, m.length = n → UpL (wd n B) 0 m → UpL (wd m.length B) 0 m from fun m hm h => by subst hm; exact h)
 generalize hW : wd n B = W at *
 have hhw : IntKind.i64.wrap (M : Int) = (M : Int) := by rw [IntKind.wrap_i64]; omega
 obtain ⟨hb, hhb⟩ : ∃ hb, hb = n + q + 1 := ⟨_, rfl⟩
 rw [← hhb] at HHB
 have HHE := hid hhb
 have hhb1 : hb ≤ 4398046511104 := by omega
 clear hhb
 have hxlI : IntKind.i64.wrap (65 + (M : Int)) = ((65 + M : Nat) : Int) := by rw [IntKind.wrap_i64]; omega
 have hxlJ : IntKind.i64.wrap (65 + (M : Int) + (hb : Int)) = ((65 + M + hb : Nat) : Int) := by rw [IntKind.wrap_i64]; omega
 have hxlK : IntKind.i64.wrap (((65 + M : Nat) : Int) + (hb : Int)) = ((65 + M + hb : Nat) : Int) := by rw [IntKind.wrap_i64]; omega
 go_wp2_with fail
 refine (HWD.out _).mono ?_
 rintro e w' ⟨rfl, rfl⟩
 go_wp2_with fail
 refine (HHB.out _).mono ?_
 rintro e w' ⟨rfl, rfl⟩
 go_wp2_with fail
 refine (zar g (x.length : Nat) _ (hlx _ hrx)).mono ?_
 rintro e w' ⟨rfl, rfl⟩
 by_cases hlong : x.length < hb
 ·have j3 : decide ((hb : Int) > (x.length : Int)) = true := decide_eq_true (by omega)
  have HN := hid (show ∀ m C, ¬ zcd x m C from fun m C h => by have := (HPS.out m C h).1; have := HHE.out; omega)
  go_wp2_with fail
  go_ret2
  exact HP.out _ _ hBx rfl (fun _ => HN.out)
 have j3 : decide ((hb : Int) > (x.length : Int)) = false := decide_eq_false (by omega)
 have j3N : ¬ x.length < hb := hlong
 obtain ⟨D, hD⟩ : ∃ D, D = 65 + M + hb := ⟨_, rfl⟩
 rw [← hD] at hxlJ hxlK
 have HDE := hid hD
 have hD0 : D ≤ 4398717599809 := by omega
 clear hD
 by_cases hne : x.length ≠ D
 ·have j4 : ((x.length : Int) == (D : Int)) = false := beq_eq_false_iff_ne.2 (by omega)
  have HN := hid (show ∀ m C, ¬ zcd x m C from fun m C h => by have := (HPS.out m C h).1; have := HHE.out; have := HDE.out; omega)
  go_wp2_with fail
  refine (zar g (x.length : Nat) _ (hlx _ hrx)).mono ?_
  rintro e w' ⟨rfl, rfl⟩
  go_wp2_with fail
  go_ret2
  exact HP.out _ _ hBx rfl (fun _ => HN.out)
 have HXD := hid (show x.length = D from Classical.byContradiction hne)
 have hlx2 := hlx _ hrx
 rw [HXD.out] at hlx2
 obtain ⟨K, hK⟩ : ∃ K, K = 65 + M := ⟨_, rfl⟩
 rw [← hK] at hxlI hxlK
 have HKE := hid hK
 clear hK hne
 have hK0 : K ≤ 671088705 := by have := HKE.out; omega
 have hC1 := hid (fun W (h : zo W g A c x) => zt0 g A c x 65 K W h (by have := HKE.out; omega) (by have := HXD.out; have := HDE.out; have := HKE.out; omega))
 have hC2 := hid (fun W (h : zo W g A c x) => zt0 g A c x K D W h (by have := HDE.out; have := HKE.out; omega) (by have := HXD.out; omega))
 rw [show K - 65 = M by have := HKE.out; omega] at hC1
 have HD2 := hid (show (x.drop K).take (D - K) = x.drop (65 + M) by rw [← HKE.out]; exact List.take_of_length_le (by rw [List.length_drop]; have := HXD.out; omega))
 rw [HD2.out] at hC2
 have HDL := hid (show (x.drop (65 + M)).length = n + (q + 1) by rw [List.length_drop]; have := HXD.out; have := HDE.out; have := HHE.out; omega)
 have hn10 : n ≤ 12000 := by have := HXD.out; have := HDE.out; have := HHE.out; omega
 have hq10 : q ≤ 100000 := by have := HXD.out; have := HDE.out; have := HHE.out; omega
 have HPL := hid (show x.length = 65 + M + (n + (q + 1)) by have := HXD.out; have := HDE.out; have := HHE.out; omega)
 go_wp2_with fail
 refine (zar g (D : Nat) _ hlx2).mono ?_
 rintro e w' ⟨rfl, rfl⟩
 go_wp2_with fail
 refine (hC1.out _ hrx).mono ?_
 rintro e w3 ⟨gl, Al, cL, rfl, hrl, _, _, hB3⟩
 have hBy := hBx.trans (hB3.mono hz2)
 have hz3 := hBy.size
 have hry := hrx.below hB3
 go_wp2_with fail
 refine (zar g (D : Nat) _ (by have := hlx _ hry; rw [HXD.out] at this; exact this)).mono ?_
 rintro e w' ⟨rfl, rfl⟩
 go_wp2_with fail
 refine (hC2.out _ hry).mono ?_
 rintro e w4 ⟨gx, Ax, cx, rfl, hrh, _, _, hB4⟩
 have hBz := hBy.trans (hB4.mono hz3)
 have hz4 := hBz.size
 have hrl4 := hrl.below hB4
 go_wp2_with fail
 refine (HBU.out gl gx Al cL _ Ax cx _ _ (by exact hrl4) (by exact hrh)).mono ?_
 rintro e w5 ⟨s, gc, gd, Ad, cd, A1, c1, l1, A0, c0, l0, rfl, hbk, hch, hlo, hB5, hs5⟩
 have hBu := hBz.trans (hB5.mono hz4)
 have hz5 := hBu.size
 rw [HDL.out] at hbk
 clear hBy hBz hB3 hB4 hB5 hz3 hz4 hrl hrl4 hrh hC1 hC2 hry hrx hBx hz2
 by_cases hcnt : (x.drop (65 + M)).count true ≠ n
 ·have HN := hid (show ∀ m C, ¬ zcd x m C from fun m C h => hcnt (HPS.out m C h).2.1)
  have HSC := hid (zvn s n B W gl gx gc gd Ax cx (x.drop (65 + M)) Ad cd A1 c1 l1 A0 c0 l0 _ w5 hbk hch hcnt)
  clear hbk hch hlo hcnt
  go_wp2_with fail
  refine (HSC.out).mono ?_
  rintro e w6 ⟨rfl, hB6⟩
  go_wp2_with fail
  go_ret2
  exact HP.out _ _ (hBu.trans (hB6.mono hz5)) rfl (fun _ => HN.out)
 have hpr := HPR.out HPL.out (Classical.byContradiction hcnt)
 obtain ⟨p1, p2, p3, p4, p5, p6⟩ := hpr
 rw [← p4] at hch
 rw [← p5] at hlo
 have hsq := HTS.out w5 s (told x n B) p1 ⟨_, _, _, _, _, _, _, _, _, _, _, _, _, _, _, _, hbk, hlo, hch⟩
 have hfw := HFW.out _ p1 hn10 hq10
 have hlt := z6y (x := x) (n := n) (B := B) (by rw [hW]; omega) (by rw [hW]; exact p2) (by rw [hW]; exact hwd)
 have HSA := hid (z0y s (told x n B) B w5 hsq (hT.below hBu) (by omega) (by omega) (HUP.out _ p1 p2) hlt hfw)
 have HSQ := hid hsq
 have HFF := hid hfw
 have HP6 := hid p6
 clear hbk hch hlo hcnt hsq hfw hlt p1 p2 p3 p4 p5 p6
 go_wp2_with fail
 refine (HSA.out).mono ?_
 rintro e w6 ⟨ok, rfl, hB6, hok⟩
 have hBv := hBu.trans (hB6.mono hz5)
 have HOK := hid hok
 clear hok
 cases ok with
 | false =>
   have HN := hid (show ∀ m C, ¬ zcd x m C from fun m C h => by
    have hh := HPS.out m C h
    obtain ⟨h1, h2, rfl, h4⟩ := hh
    have := HOK.out.2 h4
    simp at this)
   go_wp2_with fail
   go_ret2
   exact HP.out _ _ hBv rfl (fun _ => HN.out)
 | true =>
   go_wp2_with fail
   go_ret2
   exact HQ.out _ _ s _ B hBv rfl (HSQ.out.below hB6) HFF.out HGD.out (HP6.out (HOK.out.1 (by simp)))
end Go.Proofs.YtgpbpgpolpakjaaGreatDoor
