/- Proof text. -/
import Derived.Test.YtgpbpgpolpakjaaGreatDoorTabE
import Derived.Test.YtgpbpgpolpakjaaGreatDoorBitsP
import Derived.Deep.RegionHeld3
set_option maxHeartbeats 2000000
set_option linter.unusedVariables false
set_option linter.unusedSimpArgs false
set_option maxRecDepth 100000
namespace Go.Proofs.YtgpbpgpolpakjaaGreatDoor
open Go.RowKit Go.Shelf L
theorem zbl (v : Nat) (w : World) (hv : v < 18446744073709551616) :
  Calls Tryz.prog 23 #[.int .u64 (v : Nat)] w fun e w' => e = .returned (.string ⟨(leB v 8).toArray⟩) ∧ Below w.heap.size w w' := by
 obtain ⟨i0, hi, hz0, hz1, hz2⟩ := info_parts Tryz.infoU8
 go_enter Tryz.func23, Tryz.ntmps23
 go_wp2_with fail
 go_loopw [3, 4] (fun out i wr => ∃ (k : Nat) (A : Option Addr) (c : Nat), k ≤ 8 ∧ i = .int .i64 k ∧ out = .slice A k c ∧ wr.ownsRow w.heap.size 5 1 (.slice A k c) k (Lib.byteCells (leB v k)) ∧ Below w.heap.size w wr) (fun _ i _ => 8 - (intOf i).toNat)
 case atStart => exact ⟨0, none, 0, by omega, rfl, rfl, World.ownsRow_nil _ _ _ _, Below.refl _ _⟩
 case round =>
  obtain ⟨k, A, c, hk, rfl, rfl, hown, hB⟩ := hrel
  have hsz := hB.size
  rcases Nat.lt_or_ge k 8 with hlt | hge
  ·have hlti : (k : Int) < 8 := by omega
   have H1 := hid (show Lib.byteCells (leB v k) ++ [.int .u8 ((v : Int) / 2 ^ (8 * k) % 256)] = Lib.byteCells (leB v (k + 1)) by
    rw [zfr, byteCells_append, byteCells_one, show (256 : Nat) ^ k = 2 ^ (8 * k) from by rw [Nat.pow_mul]]; simp)
   go_wp2_with (at_builtin
                go_must (refine zaa _ rfl (.tmp 9) (.tmp 15) _ rfl w.heap.size 5 i0 _ 1 Tryz.underlying117 hi hz0 hz1 hz2 rfl (.slice A k c) k (Lib.byteCells (leB v k)) rfl ?hown (some ⟨wr.heap.size, 0, none⟩) 1 1 [.int .u8 ((v : Int) / 2 ^ (8 * k) % 256)] rfl ?hls rfl ?h1 ?h63 ?hby ?hbs _ rfl ?_)
                go_must (case hown => exact hown.alloc _)
                go_must (case hls => exact zc3 _ _ _ _ rfl)
                go_must (case h1 => simp [Value.oneCell'])
                go_must (case h63 => simp only [maxLen]; omega)
                go_must (case hby => omega)
                go_must (case hbs => simp; omega)
                intro A2 c2 w2 hown2 hgr2 hat2)
   have hB2 : Below w.heap.size w w2 := (hB.alloc hsz _).grown hgr2 (by simp; omega) (fun j hj => (hown.lt j hj).1)
   rw [H1.out] at hown2
   clear hgr2 hat2
   go_roundw
   case rel => exact ⟨k + 1, A2, c2, by omega, by go_num, rfl, hown2, hB2⟩
   case measure => simp [intOf]; omega
  ·obtain rfl : k = 8 := by omega
   have hcv : (convert 117 9 (.slice A 8 c)).run Tryz.prog wr = .ok (.string ⟨(leB v 8).toArray⟩) wr := by
    have := zdf (l := leB v 8) (by rw [ze]; exact hown)
    rwa [ze] at this
   go_wp2
   go_ret
   exact ⟨rfl, hB⟩
def L.numI (s : ByteArray) (at_ most : Nat) : Int := if s.size < at_ + 8 then -1 else if most < valL (s.data.toList.drop at_) then -1 else (valL (s.data.toList.drop at_) : Nat)
theorem zoi (s : ByteArray) (at_ most : Nat) (w : World) (hs : s.size ≤ 1000000) (ha : at_ ≤ 2000000) (hm : most ≤ 1000000000) :
  Calls Tryz.prog 124 #[.string s, .int .i64 (at_ : Nat), .int .i64 (most : Nat)] w fun e w' => e = .returned (.int .i64 (numI s at_ most)) ∧ w = w' := by
 have d0 : decide ((at_ : Int) < 0) = false := decide_eq_false (by omega)
 by_cases h8 : s.size < at_ + 8
 ·have h8I : (s.size : Int) - (at_ : Int) < 8 := by omega
  have d1 : decide ((s.size : Int) - (at_ : Int) < 8) = true := decide_eq_true h8I
  have HR := hid (show numI s at_ most = -1 from by unfold numI; rw [if_pos h8])
  go_enter Tryz.func124, Tryz.ntmps124
  go_wp2_with fail
  go_ret
  exact ⟨by rw [HR.out]; rfl, rfl⟩
 ·have h8I : ¬ ((s.size : Int) - (at_ : Int) < 8) := by omega
  have d1 : decide ((s.size : Int) - (at_ : Int) < 8) = false := decide_eq_false h8I
  have hl8 : 8 ≤ (s.data.toList.drop at_).length := by rw [List.length_drop, zan]; omega
  have HV := hid (zlk (s.data.toList.drop at_))
  have HD := hid (show ∀ j (hj : j < 8), valL (s.data.toList.drop at_) / 256 ^ j = valL (s.data.toList.drop at_) / 256 ^ (j + 1) * 256 + (s[at_ + j]'(by omega)).toNat from fun j hj => by
   have := L.z6h (s.data.toList.drop at_) j hj hl8
   rw [List.getElem_drop] at this
   exact this)
  have HN := hid (show (most < valL (s.data.toList.drop at_) → numI s at_ most = -1) ∧ (valL (s.data.toList.drop at_) ≤ most → numI s at_ most = (valL (s.data.toList.drop at_) : Nat)) from by
   unfold numI
   rw [if_neg h8]
   exact ⟨fun h => if_pos h, fun h => if_neg (by omega)⟩)
  obtain ⟨V, hV⟩ : ∃ V, V = valL (s.data.toList.drop at_) := ⟨_, rfl⟩
  rw [← hV] at HV HD HN
  clear hV hl8
  go_enter Tryz.func124, Tryz.ntmps124
  go_wp2_with fail
  go_loop [7, 8] (fun n i => ∃ k : Nat, k ≤ 8 ∧ i = .int .i64 ((k : Int) - 1) ∧ n = .int .i64 (V / 256 ^ k : Nat) ∧ V / 256 ^ k ≤ most) (fun _ i => (intOf i + 1).toNat)
  case atStart =>
   have h0 : V / 256 ^ 8 = 0 := Nat.div_eq_of_lt HV.out
   exact ⟨8, by omega, rfl, by rw [h0]; rfl, by rw [h0]; omega⟩
  case round =>
   obtain ⟨k, hk, rfl, rfl, hle⟩ := hrel
   rcases Nat.eq_zero_or_pos k with h0 | h0
   ·subst h0
    rw [Nat.pow_zero, Nat.div_one] at hle
    rw [Nat.pow_zero, Nat.div_one]
    have HR := hid (HN.out.2 hle)
    go_wp2_with fail
    go_ret
    exact ⟨by rw [HR.out]; rfl, rfl⟩
   ·obtain ⟨j, rfl⟩ : ∃ j, k = j + 1 := ⟨k - 1, by omega⟩
    have HDJ := hid (HD.out j (by omega))
    have hjs : at_ + j < s.size := by omega
    rw [show ((j + 1 : Nat) : Int) - 1 = (j : Int) from by omega]
    have hVJ : V / 256 ^ j ≤ V := Nat.div_le_self _ _
    have HVJ := hid hVJ
    clear hVJ
    have HE := hid (show V / 256 ^ j = V / 256 ^ (j + 1) * 256 + (s[at_ + j]'hjs).toNat from HDJ.out)
    have hb : ((s[at_ + j]'hjs).toNat : Int) < 256 := by have := UInt8.toNat_lt (s[at_ + j]'hjs); omega
    generalize V / 256 ^ (j + 1) = q at *
    generalize hr : V / 256 ^ j = r at *
    have HRR := hid hr
    clear hr HD HDJ
    have hjI : (at_ : Int) + (j : Int) < (s.size : Int) := by omega
    have hj0 : (0 : Int) ≤ (at_ : Int) + (j : Int) := by omega
    have hj1 : ((at_ : Int) + (j : Int)).toNat = at_ + j := by omega
    have hj2 : (0 : Int) ≤ (j : Int) := by omega
    by_cases hmo : most < r
    ·have HR := hid (HN.out.1 (by have := HVJ.out; omega))
     have hmoI : (most : Int) < (q : Int) * 256 + ((s[at_ + j]'hjs).toNat : Int) := by have := HE.out; omega
     clear hmo
     go_wp2_with fail
     go_ret
     exact ⟨by rw [HR.out]; rfl, rfl⟩
    ·have hmoI : ¬ (most : Int) < (q : Int) * 256 + ((s[at_ + j]'hjs).toNat : Int) := by have := HE.out; omega
     go_wp2_with fail
     go_round
     case rel => exact ⟨j, by omega, by simp, by rw [HRR.out, HE.out]; simp, by rw [HRR.out]; omega⟩
     case measure => simp [intOf] <;> omega
theorem L.zcr {l r x : List UInt8} {a n : Nat} (h : l.drop a = x ++ r) (hn : x.length = n) : l.drop (a + n) = r := by
 rw [← List.drop_drop, h, ← hn, List.drop_left]
theorem L.zfw {s : ByteArray} {a m n : Nat} {r : List UInt8} (h : s.data.toList.drop a = leB n 8 ++ r) (hn : n ≤ m) (hm : m < 18446744073709551616) : numI s a m = (n : Nat) := by
 have h8 : 8 ≤ (s.data.toList.drop a).length := by rw [h, List.length_append, ze]; omega
 rw [List.length_drop, zan] at h8
 unfold numI
 rw [if_neg (by omega), h, zph (by omega), if_neg (by omega)]
theorem L.zlo (s : ByteArray) (a m : Nat) : -1 ≤ numI s a m ∧ numI s a m ≤ m := by
 unfold numI
 split
 ·omega
 ·split <;> omega
theorem L.z1d {s : ByteArray} {a : Nat} {x : EntI} {r : List UInt8} (h : s.data.toList.drop a = entL x ++ r) (hi : InR x) :
  a + 33 + x.s.size ≤ s.size ∧ numI s a 1048576 = x.a ∧ numI s (a + 8) 1048576 = x.b ∧ (∃ hb : a + 16 < s.size, ((s[a + 16]'hb).toNat : Int) = x.v) ∧ numI s (a + 17) 65536 = x.p ∧ numI s (a + 25) 1048576 = (x.s.size : Nat) ∧ s.extract (a + 33) (a + 33 + x.s.size) = x.s := by
 obtain ⟨q1, q2, q3, q4, q5, q6, q7, q8, q9⟩ := hi
 have hl := zan s
 have hxl := zan x.s
 unfold entL at h
 simp only [List.append_assoc] at h
 have h8 := zcr h (ze _ _)
 have h16 := zcr h8 (ze _ _)
 have h17 := zcr h16 (ze _ _)
 have h25 := zcr h17 (ze _ _)
 have h33 := zcr h25 (ze _ _)
 have l25 := congrArg List.length h25
 rw [List.length_drop, List.length_append, ze, List.length_append, hl, hxl] at l25
 have hb : a + 16 < s.size := by omega
 refine ⟨by omega, by rw [zfw h (by omega) (by omega)]; omega, by rw [zfw h8 (by omega) (by omega)]; omega, ⟨hb, ?_⟩, by rw [zfw h17 (by omega) (by omega)]; omega, by rw [zfw h25 (by omega) (by omega)], ?_⟩
 ·have e : (s.data.toList.drop (a + 8 + 8))[0]? = some (UInt8.ofNat x.v.toNat) := by rw [h16]; simp [leB]
  rw [List.getElem?_drop] at e
  have e2 : s.data.toList[a + 16]'(by omega) = UInt8.ofNat x.v.toNat := by
   have := List.getElem?_eq_some_iff.1 e
   obtain ⟨_, e3⟩ := this
   exact e3
  have e3 : s[a + 16]'hb = UInt8.ofNat x.v.toNat := e2
  rw [e3, UInt8.toNat_ofNat', Nat.mod_eq_of_lt (by omega)]; omega
 ·apply ByteArray.ext
  apply Array.toList_inj.1
  rw [ext_list]
  have e : s.data.toList.drop (a + 33) = x.s.data.toList ++ r := h33
  rw [e, List.take_left' (by rw [hxl]; omega)]
theorem L.zw6 {s : ByteArray} {t : TabN} (h : zb7 s.data.toList t) : numI s 8 4096 = t.deep ∧ numI s 16 1048576 = t.size ∧ numI s 24 4096 = (t.es.length : Nat) ∧ s.data.toList.drop 32 = zad t.es := by
 obtain ⟨⟨f1, f2, f3, f4, f5, f6⟩, h⟩ := h
 unfold zak zbd at h
 simp only [List.append_assoc] at h
 have h0 : s.data.toList.drop 0 = zd4 ++ (leB t.deep.toNat 8 ++ (leB t.size.toNat 8 ++ (leB t.es.length 8 ++ zad t.es))) := by rw [List.drop_zero, h]
 have h8 := zcr h0 zef
 have h16 := zcr h8 (ze _ _)
 have h24 := zcr h16 (ze _ _)
 have h32 := zcr h24 (ze _ _)
 refine ⟨?_, ?_, ?_, h32⟩
 ·have := zfw h8 (m := 4096) (by omega) (by omega)
  rw [show (0 + 8 : Nat) = 8 from rfl] at this
  rw [this]; omega
 ·have := zfw h16 (m := 1048576) (by omega) (by omega)
  rw [show (0 + 8 + 8 : Nat) = 16 from rfl] at this
  rw [this]; omega
 ·exact zfw h24 (m := 4096) (by omega) (by omega)
def L.zdr (s : ByteArray) (d z n : Int) (i a : Nat) (es : List EntI) : Prop := ∀ t, zb7 s.data.toList t → d = t.deep ∧ z = t.size ∧ n = (t.es.length : Nat) ∧ es = t.es.take i ∧ a = 32 + (zad (t.es.take i)).length
theorem L.zdr.start (s : ByteArray) : zdr s (numI s 8 4096) (numI s 16 1048576) (numI s 24 4096) 0 32 [] := fun t ht => by
 obtain ⟨h1, h2, h3, _⟩ := zw6 ht
 exact ⟨h1, h2, h3, rfl, rfl⟩
theorem L.zdr.ent {s : ByteArray} {d z n : Int} {i a : Nat} {es : List EntI} (H : zdr s d z n i a es) (hi : (i : Int) < n) {t : TabN} (ht : zb7 s.data.toList t) : ∃ x r, s.data.toList.drop a = entL x ++ r ∧ InR x ∧ t.es.take (i + 1) = es ++ [x] := by
 obtain ⟨e1, e2, e3, e4, e5⟩ := H t ht
 have hit : i < t.es.length := by omega
 refine ⟨t.es[i], zad (t.es.drop (i + 1)), ?_, ht.1.2.2.2.2.2.inR ht.1.2.2.2.1 _ (List.getElem_mem hit), by rw [List.take_succ_eq_append_getElem hit, e4]⟩
 have h2 : s.data.toList.drop 32 = zad (t.es.take i) ++ zad (t.es.drop i) := by rw [(zw6 ht).2.2.2, ← zeg, List.take_append_drop]
 rw [e5, zcr h2 rfl, List.drop_eq_getElem_cons hit, zen]
theorem L.zdr.no {s : ByteArray} {d z n : Int} {i a : Nat} {es : List EntI} (H : zdr s d z n i a es) (hi : (i : Int) < n) (hx : s.size < a + 33 ∨ numI s (a + 25) 1048576 < 0 ∨ (s.size : Int) < (a : Int) + 33 + numI s (a + 25) 1048576) : ∀ t, ¬ zb7 s.data.toList t := fun t ht => by
 obtain ⟨x, r, h1, h2, _⟩ := H.ent hi ht
 obtain ⟨b1, _, _, _, _, b6, _⟩ := z1d h1 h2
 omega
theorem L.zdr.succ {s : ByteArray} {d z n : Int} {i a : Nat} {es : List EntI} (H : zdr s d z n i a es) (hi : (i : Int) < n) (k : Nat) (hk : numI s (a + 25) 1048576 = (k : Nat)) (ha : a + 16 < s.size) :
  zdr s d z n (i + 1) (a + 33 + k) (es ++ [⟨numI s a 1048576, numI s (a + 8) 1048576, ((s[a + 16]'ha).toNat : Int), numI s (a + 17) 65536, s.extract (a + 33) (a + 33 + k)⟩]) := fun t ht => by
 obtain ⟨x, r, h1, h2, h3⟩ := H.ent hi ht
 obtain ⟨b1, b2, b3, ⟨_, b4⟩, b5, b6, b7⟩ := z1d h1 h2
 obtain ⟨e1, e2, e3, e4, e5⟩ := H t ht
 have hkx : k = x.s.size := by omega
 subst hkx
 rw [b2, b3, b4, b5, b7]
 refine ⟨e1, e2, e3, by rw [h3], ?_⟩
 rw [h3, zgx, List.length_append, zf6, e4]; omega
theorem L.zdr.fin {s : ByteArray} {d z n : Int} {i a : Nat} {es : List EntI} (H : zdr s d z n i a es) (hi : (i : Int) = n) : ∀ t, zb7 s.data.toList t → t = ⟨d, z, es⟩ ∧ a = s.size := fun t ht => by
 obtain ⟨e1, e2, e3, e4, e5⟩ := H t ht
 have hl : i = t.es.length := by omega
 rw [hl, List.take_length] at e4 e5
 refine ⟨by rw [e1, e2, e4], ?_⟩
 rw [← zan, ht.2, zdh, e5]
end Go.Proofs.YtgpbpgpolpakjaaGreatDoor
