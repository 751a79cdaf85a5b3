/- Proof text. -/
import Derived.Test.YtgpbpgpolpakjaaGreatDoorRows
import Derived.Test.YtgpbpgpolpakjaaGreatDoorBase
import Derived.Test.YtgpbpgpolpakjaaGreatDoorMaths
import Derived.Test.YtgpbpgpolpakjaaGreatDoorAutoP
import Derived.WalkKit
import Derived.WalkSpells
import Derived.WalkLawsBesides
import Derived.Test.YtgpbpgpolpakjaaGreatDoorShelf
import Derived.StillTailTactics
import Derived.Deep.RegionHeld3
import Derived.Deep.RegionLaw
import Derived.Laws.BitsAllLaws
set_option maxHeartbeats 4000000
set_option linter.unusedVariables false
set_option linter.unusedSimpArgs false
set_option maxRecDepth 100000
namespace Go.Proofs.YtgpbpgpolpakjaaGreatDoor
open Go.RowKit L
theorem zxj (b : Nat) (w : World) (hb : b < 256) :
  Calls Tryz.prog 212 #[.int .u8 (b : Nat)] w fun e w' => e = .returned (.int .i64 (zce b : Nat)) ∧ w = w' := by
 go_enter Tryz.func212, Tryz.ntmps212
 go_wp2
 all_goals
  go_ret
  exact ⟨zcn (by (try simp only [beq_iff_eq, beq_eq_false_iff_ne, ne_eq, Bool.not_eq_true] at *); unfold zce; (repeat' split) <;> omega), rfl⟩
theorem zzi (u b : Nat) (w : World) (hb : b < 256) (hu : u ≤ 7) :
  Calls Tryz.prog 190 #[.int .i64 (u : Nat), .int .u8 (b : Nat)] w fun e w' => e = .returned (.int .i64 (zaf u b : Nat)) ∧ w = w' := by
 have HF := hid (fun W => zxj b W hb)
 rcases Nat.eq_zero_or_pos u with h0 | h0
 ·subst h0
  have HR := hid (show zaf 0 b = zce b by unfold zaf; rw [if_pos rfl])
  generalize zce b = f at *
  go_enter Tryz.func190, Tryz.ntmps190
  go_wp2_with fail
  refine (HF.out _).mono ?_
  rintro e w' ⟨rfl, rfl⟩
  go_wp2
  go_ret
  exact ⟨by rw [HR.out]; rfl, rfl⟩
 ·clear HF
  have hcase : u = 1 ∨ u = 2 ∨ u = 3 ∨ u = 4 ∨ u = 5 ∨ u = 6 ∨ u = 7 := by omega
  rcases hcase with rfl | rfl | rfl | rfl | rfl | rfl | rfl
  all_goals
   clear h0 hu
   go_enter Tryz.func190, Tryz.ntmps190
   go_wp2
   all_goals
    go_ret
    exact ⟨zcn (by (try simp only [beq_iff_eq, beq_eq_false_iff_ne, ne_eq, Bool.not_eq_true] at *); unfold zaf ulow z4q zfh; simp only [Nat.reduceEqDiff, if_true, if_false, reduceIte, or_true, true_or, or_false, false_or, Nat.reduceSub]; (repeat' split) <;> omega), rfl⟩
open Go.Shelf
def L.nb (s : ByteArray) : List Nat := s.data.toList.map UInt8.toNat
theorem L.zf (s : ByteArray) : (nb s).length = s.size := by simp [nb]
theorem L.zaz (s : ByteArray) (i : Nat) (h : i < s.size) : at_ (nb s) i = (s[i]).toNat := by
 unfold at_ nb
 rw [List.getElem?_map]
 have : s.data.toList[i]? = some s[i] := by
  rw [List.getElem?_eq_getElem (by simpa using h)]
  simp; rfl
 rw [this]; rfl
theorem L.zcw {l : List Nat} {i : Nat} (h : l.length ≤ i) : at_ l i = 0 := by unfold at_; rw [List.getElem?_eq_none h]; rfl
theorem L.zmm (s : ByteArray) (i : Nat) : at_ (nb s) i < 256 := by
 by_cases h : i < s.size
 ·rw [zaz s i h]; exact UInt8.toNat_lt _
 ·rw [zcw (by rw [zf]; omega)]; omega
def SC (s : ByteArray) (k : Nat) (v : Value) (d m : Nat) : Array Value := #[.string s, .int .i64 (k : Nat), v, .int .i64 (d : Nat), .int .i64 (m : Nat)]
def ScAt (w : World) (g : Nat) (s : ByteArray) (k : Nat) (v : Value) (d m : Nat) : Prop := za w g 182 (SC s k v d m)
section
variable {w w' : World} {g : Nat} {s : ByteArray} {k : Nat} {v : Value} {d m : Nat}
theorem ScAt.c0 (h : ScAt w g s k v d m) : w.cell? ⟨g, 0, none⟩ = some (.string s) := za.cell h 0
theorem ScAt.c1 (h : ScAt w g s k v d m) : w.cell? ⟨g, 1, none⟩ = some (.int .i64 (k : Nat)) := za.cell h 1
theorem ScAt.c2 (h : ScAt w g s k v d m) : w.cell? ⟨g, 2, none⟩ = some v := za.cell h 2
theorem ScAt.c3 (h : ScAt w g s k v d m) : w.cell? ⟨g, 3, none⟩ = some (.int .i64 (d : Nat)) := za.cell h 3
theorem ScAt.c4 (h : ScAt w g s k v d m) : w.cell? ⟨g, 4, none⟩ = some (.int .i64 (m : Nat)) := za.cell h 4
theorem ScAt.fr (h : ScAt w g s k v d m) (i : Nat) : w.frozen? ⟨g, i, none⟩ = false := za.frozen h i
theorem ScAt.at' (h : ScAt w g s k v d m) (k' : Nat) (i : Int) (hi : i = (k' : Nat)) : ScAt (w.setCell ⟨g, 1, none⟩ (.int .i64 i)) g s k' v d m := by subst hi; exact za.put h 1 _
theorem ScAt.drewN (h : ScAt w g s k v d m) (n : Nat) : ScAt (w.drewN n) g s k v d m := h
end
def zbf (w : World) (g : Nat) : Nat := match w.cell? ⟨g, 1, none⟩ with | some (.int _ i) => i.toNat | _ => 0
theorem ScAt.pos {w : World} {g : Nat} {s : ByteArray} {k : Nat} {v : Value} {d m : Nat} (h : ScAt w g s k v d m) : zbf w g = k := by unfold zbf; rw [h.c1]; simp
theorem zfc (g : Nat) (s : ByteArray) (k : Nat) (v : Value) (d m : Nat) (w : World) (hb : ScAt w g s k v d m) :
  Calls Tryz.prog 157 #[.pointer (some ⟨g, 0, none⟩)] w fun e w' => e = .returned (.int .u8 (at_ (nb s) k : Nat)) ∧ ∃ n, w' = w.drewN n := by
 have c0 := hb.c0
 have c1 := hb.c1
 rcases Nat.lt_or_ge k s.size with h | h
 ·have HA := hid (zaz s k h)
  have hi : (k : Int) < (s.size : Int) := by omega
  go_enter Tryz.func157, Tryz.ntmps157
  go_wp2
  go_quiet (fail)
  go_wp2
  go_quiet (fail)
  go_wp2
  go_ret
  exact ⟨by rw [HA.out]; rfl, _, World.drewN_drewN _ _ _⟩
 ·have HA := hid (zcw (l := nb s) (i := k) (by rw [zf]; exact h))
  have hi : ¬ ((k : Int) < (s.size : Int)) := by omega
  go_enter Tryz.func157, Tryz.ntmps157
  go_wp2
  go_quiet (fail)
  go_wp2
  go_ret
  exact ⟨by rw [HA.out]; rfl, _, rfl⟩
theorem z1v (b : Nat) (w : World) (hb : b < 256) :
  Calls Tryz.prog 211 #[.int .u8 (b : Nat)] w fun e w' => e = .returned (.bool (hexd b)) ∧ w = w' := by
 have h6 : ∃ b1 b2 b3 b4 b5 b6 : Bool, (decide ((b : Int) ≥ 48) = b1 ∧ decide ((b : Int) ≤ 57) = b2 ∧ decide ((b : Int) ≥ 97) = b3 ∧ decide ((b : Int) ≤ 102) = b4 ∧ decide ((b : Int) ≥ 65) = b5 ∧ decide ((b : Int) ≤ 70) = b6) ∧
   [(false, true, false, true, false, true), (true, true, false, true, false, true), (true, false, false, true, false, true), (true, false, false, true, true, true), (true, false, false, true, true, false), (true, false, true, true, true, false), (true, false, true, false, true, false)].contains (b1, b2, b3, b4, b5, b6) = true ∧
   hexd b = ((b1 && b2) || (b3 && b4) || (b5 && b6)) := by
  refine ⟨_, _, _, _, _, _, ⟨rfl, rfl, rfl, rfl, rfl, rfl⟩, ?_, ?_⟩
  ·simp only [List.contains_eq_mem, List.mem_cons, Prod.mk.injEq, decide_eq_true_eq, decide_eq_false_iff_not, List.not_mem_nil, or_false]
   omega
  ·unfold hexd
   congr 1
   ·congr 1
    ·congr 1 <;> (apply Bool.eq_iff_iff.2; simp only [decide_eq_true_eq]; omega)
    ·congr 1 <;> (apply Bool.eq_iff_iff.2; simp only [decide_eq_true_eq]; omega)
   ·congr 1 <;> (apply Bool.eq_iff_iff.2; simp only [decide_eq_true_eq]; omega)
 obtain ⟨b1, b2, b3, b4, b5, b6, ⟨h1, h2, h3, h4, h5, h6⟩, hm, hR⟩ := h6
 rw [hR]
 clear hR
 simp only [List.contains_eq_mem, List.mem_cons, Prod.mk.injEq, decide_eq_true_eq, List.not_mem_nil, or_false] at hm
 rcases hm with ⟨rfl, rfl, rfl, rfl, rfl, rfl⟩ | ⟨rfl, rfl, rfl, rfl, rfl, rfl⟩ | ⟨rfl, rfl, rfl, rfl, rfl, rfl⟩ | ⟨rfl, rfl, rfl, rfl, rfl, rfl⟩ | ⟨rfl, rfl, rfl, rfl, rfl, rfl⟩ | ⟨rfl, rfl, rfl, rfl, rfl, rfl⟩ | ⟨rfl, rfl, rfl, rfl, rfl, rfl⟩
 all_goals
  go_enter Tryz.func211, Tryz.ntmps211
  go_wp2
  go_ret
  exact ⟨rfl, rfl⟩
open Go.RowKit Go.Shelf L
theorem zlx {P : Program} {f : FuncId} {args : Array Value} {w : World} {v : Value} {n : Nat} (h : Calls P f args (w.drewN n) fun e w' => e = .returned v ∧ ∃ m, w' = (w.drewN n).drewN m) :
  Calls P f args (w.drewN n) fun e w'' => e = .returned v ∧ ∃ m, w'' = w.drewN m := h.mono fun _ _ ⟨he, m, hw⟩ => ⟨he, n + m, by rw [hw, World.drewN_drewN]⟩
def Sco (g : Nat) (w w' : World) : Prop := Only (fun i => i = g) w w'
theorem Sco.refl (g : Nat) (w : World) : Sco g w w := Only.refl _ _
theorem Sco.trans {g : Nat} {a w w' : World} (h : Sco g a w) (k : Sco g w w') : Sco g a w' := Only.trans h k (fun _ _ h => h)
theorem Sco.drewN {g : Nat} {a w : World} (h : Sco g a w) (n : Nat) : Sco g a (w.drewN n) := Only.drewN h n
theorem Sco.set {g : Nat} {a w : World} (h : Sco g a w) (i : Nat) (u : Value) : Sco g a (w.setCell ⟨g, i, none⟩ u) := Only.setCell h (Or.inl rfl) u
theorem zg (k : Nat) (h : k ≤ 4294967296) : IntKind.i64.wrap ((k : Int) + 1) = (k : Int) + 1 := by rw [IntKind.wrap_i64]; omega
theorem znj (k : Nat) (h : k ≤ 4294967296) : IntKind.i64.wrap ((k : Int) - 1) = (k : Int) - 1 := by rw [IntKind.wrap_i64]; omega
theorem z1w (g : Nat) (s : ByteArray) (k : Nat) (v : Value) (d m : Nat) (w : World) (hb : ScAt w g s k v (d + 1) m) (hk : k ≤ 65536) (hd : d ≤ 65536) :
  Calls Tryz.prog 162 #[.pointer (some ⟨g, 0, none⟩)] w fun e w' => e = .returned (.tuple #[]) ∧ ScAt w' g s (k + 1) v d m ∧ Sco g w w' := by
 have c1 := hb.c1
 have c3 := hb.c3
 have f1 := hb.fr 1
 have f3 := hb.fr 3
 have x1 := zg k (by omega)
 have x2 := znj (d + 1) (by omega)
 have hb1 : ScAt (w.setCell ⟨g, 3, none⟩ (.int .i64 (((d + 1 : Nat) : Int) - 1))) g s k v d m := by rw [show ((d + 1 : Nat) : Int) - 1 = (d : Nat) from by omega]; exact za.put hb 3 _
 have hb2 := hb1.at' (k + 1) ((k : Int) + 1) (by omega)
 have ho := ((Sco.refl g w).set 3 (.int .i64 (((d + 1 : Nat) : Int) - 1))).set 1 (.int .i64 ((k : Int) + 1))
 have c1' := hb1.c1
 have f1' := hb1.fr 1
 generalize hD : d + 1 = D at *
 go_enter Tryz.func162, Tryz.ntmps162
 go_wp2
 go_end0
 exact ⟨rfl, hb2, ho⟩
def bix (c : Nat) : Int := Lib.indexByte [32, 9, 10, 13] c.toUInt8
theorem zzj (c : Nat) (h : c < 256) : decide (bix c ≥ 0) = L.blank c := by
 have : ∀ c : Fin 256, decide (bix c.1 ≥ 0) = L.blank c.1 := by decide +kernel
 exact this ⟨c, h⟩
theorem zow (c : Nat) (w : World) : Calls Tryz.prog 153 #[.string { data := #[32, 9, 10, 13] }, .int .u8 (c : Nat)] w fun e w' => e = .returned (.int .i64 (bix c)) ∧ w = w' :=
 (Tryz.strings_IndexByte { data := #[32, 9, 10, 13] } (c : Nat) w).mono fun e w' ⟨he, hw⟩ => ⟨by rw [he]; rfl, hw.symm⟩
def Blk (l : List Nat) (k k' : Nat) : Prop := k ≤ k' ∧ k' ≤ l.length ∧ (∀ i, k ≤ i → i < k' → L.blank (at_ l i) = true) ∧ (k' < l.length → L.blank (at_ l k') = false)
theorem zdw (g : Nat) (s : ByteArray) (k : Nat) (v : Value) (d m : Nat) (w : World) (hb : ScAt w g s k v d m) (hk : k ≤ s.size) (hs : s.size ≤ 65536) :
  Calls Tryz.prog 156 #[.pointer (some ⟨g, 0, none⟩)] w fun e w' => e = .returned (.tuple #[]) ∧ ∃ k', ScAt w' g s k' v d m ∧ Sco g w w' ∧ Blk (nb s) k k' := by
 go_enter Tryz.func156, Tryz.ntmps156
 go_wp2
 go_loopw [] (fun wr => ∃ k', ScAt wr g s k' v d m ∧ Sco g w wr ∧ k ≤ k' ∧ k' ≤ s.size ∧ (∀ i, k ≤ i → i < k' → L.blank (at_ (nb s) i) = true)) (fun wr => s.size - zbf wr g)
 case atStart => exact ⟨k, hb, Sco.refl _ _, Nat.le_refl _, hk, fun i h1 h2 => by omega⟩
 case round =>
  obtain ⟨k', hb', ho, hk1, hk2, hbl⟩ := hrel
  have c0 := hb'.c0
  have c1 := hb'.c1
  have f1 := hb'.fr 1
  have x1 := zg k' (by omega)
  rcases Nat.lt_or_ge k' s.size with h | h
  ·have HA := hid (zaz s k' h)
   have hi : (k' : Int) < (s.size : Int) := by omega
   have hlt := UInt8.toNat_lt s[k']
   have HB := hid (zzj (s[k']).toNat hlt)
   have HL := hid hbl
   have hn1 := hb'.at' (k' + 1) ((k' : Int) + 1) (by omega)
   have hn2 := ho.set 1 (.int .i64 ((k' : Int) + 1))
   have hp : ∀ W, ScAt W g s (k' + 1) v d m → zbf W g = k' + 1 := fun W h => h.pos
   clear hbl
   cases hbk : L.blank (s[k']).toNat
   ·have hd : decide (bix (s[k']).toNat ≥ 0) = false := HB.out.trans hbk
    have HK := hid hbk
    clear hbk
    go_wp2
    go_quiet ((go_at_call 153; exact zax (zow _ _)))
    go_wp2
    go_end0
    exact ⟨rfl, k', hb'.drewN _, ho.drewN _, hk1, by rw [zf]; exact hk2, HL.out, fun _ => by rw [HA.out]; exact HK.out⟩
   ·have hd : decide (bix (s[k']).toNat ≥ 0) = true := HB.out.trans hbk
    have HK := hid hbk
    clear hbk
    go_wp2
    go_quiet ((go_at_call 153; exact zax (zow _ _)))
    go_wp2
    go_roundw
    case rel => exact ⟨k' + 1, hn1.drewN _, hn2.drewN _, by omega, by omega, fun i h1 h2 => by
     rcases Nat.lt_or_ge i k' with h3 | h3
     ·exact HL.out i h1 h3
     ·obtain rfl : i = k' := by omega
      rw [HA.out]; exact HK.out⟩
    case measure => rw [hp _ (by exact hn1.drewN _), hb'.pos]; omega
  ·have hi : decide ((k' : Int) < (s.size : Int)) = false := decide_eq_false (by omega)
   have hiN : ¬ (k' < s.size) := by omega
   go_wp2
   go_quiet ((go_at_call 153; exact zax (zow _ _)))
   go_wp2
   go_end0
   exact ⟨rfl, k', hb'.drewN _, ho.drewN _, hk1, by rw [zf]; exact hk2, hbl, fun h3 => by rw [zf] at h3; omega⟩
def Dg (l : List Nat) (k k' : Nat) : Prop := k ≤ k' ∧ k' ≤ l.length ∧ (∀ i, k ≤ i → i < k' → L.digit (at_ l i) = true) ∧ L.digit (at_ l k') = false
theorem zew {s : ByteArray} {k : Nat} (h : at_ (nb s) k ≠ 0) : k < s.size := by
 rcases Nat.lt_or_ge k s.size with h1 | h1
 ·exact h1
 ·exact absurd (zcw (by rw [zf]; exact h1)) h
theorem zai (g : Nat) (s : ByteArray) (k : Nat) (v : Value) (d m : Nat) (w : World) (hb : ScAt w g s k v d m) (hk : k ≤ s.size) (hs : s.size ≤ 65536) :
  Calls Tryz.prog 210 #[.pointer (some ⟨g, 0, none⟩)] w fun e w' => ∃ k', e = .returned (.bool (decide (k < k'))) ∧ ScAt w' g s k' v d m ∧ Sco g w w' ∧ Dg (nb s) k k' := by
 have c1 := hb.c1
 go_enter Tryz.func210, Tryz.ntmps210
 go_wp2_with fail
 refine (zfc g s k v d m _ hb).mono ?_
 rintro e w' ⟨rfl, n0, rfl⟩
 have hb0 := hb.drewN n0
 have ho0 := (Sco.refl g w).drewN n0
 go_wp2
 go_loopw [4] (fun c wr => ∃ k', c = .int .u8 (at_ (nb s) k' : Nat) ∧ ScAt wr g s k' v d m ∧ Sco g w wr ∧ k ≤ k' ∧ k' ≤ s.size ∧ (∀ i, k ≤ i → i < k' → L.digit (at_ (nb s) i) = true)) (fun _ wr => s.size - zbf wr g)
 case atStart => exact ⟨k, rfl, hb0, ho0, Nat.le_refl _, hk, fun i h1 h2 => by omega⟩
 case round =>
  obtain ⟨k', rfl, hb', ho, hk1, hk2, hbl⟩ := hrel
  have c0 := hb'.c0
  have c1 := hb'.c1
  have f1 := hb'.fr 1
  have x1 := zg k' (by omega)
  have hlt := zmm s k'
  have HN := hid (@zew s k')
  have HL := hid hbl
  have hn1 := hb'.at' (k' + 1) ((k' : Int) + 1) (by omega)
  have hn2 := ho.set 1 (.int .i64 ((k' : Int) + 1))
  have HD := hid (show L.digit (at_ (nb s) k') = (decide (48 ≤ at_ (nb s) k') && decide (at_ (nb s) k' ≤ 57)) from rfl)
  have SN := hid (fun (W : World) (hW : ScAt W g s (k' + 1) v d m) => zfc g s (k' + 1) v d m W hW)
  have hp : ∀ W, ScAt W g s (k' + 1) v d m → zbf W g = k' + 1 := fun W h => h.pos
  have HP := hid hb'.pos
  have hkk : decide ((k : Int) < (k' : Int)) = decide (k < k') := by apply Bool.eq_iff_iff.2; simp only [decide_eq_true_eq]; omega
  have hkk2 : decide ((k' : Int) > (k : Int)) = decide (k < k') := by apply Bool.eq_iff_iff.2; simp only [decide_eq_true_eq]; omega
  clear hbl
  generalize hc : at_ (nb s) k' = c at *
  have HC := hid hc
  clear hc
  rcases Nat.lt_or_ge c 48 with h1 | h1
  ·have d1 : decide ((c : Int) ≥ 48) = false := decide_eq_false (by omega)
   have d1N : ¬ (48 ≤ c) := by omega
   have HE := hid (show L.digit c = false by rw [HD.out, decide_eq_false d1N, Bool.false_and])
   go_wp2
   go_ret
   exact ⟨k', zfb (by first | rfl | (apply Bool.eq_iff_iff.2; simp only [decide_eq_true_eq]; omega)), hb', ho, hk1, by rw [zf]; exact hk2, HL.out, by rw [HC.out]; exact HE.out⟩
  ·have d1 : decide ((c : Int) ≥ 48) = true := decide_eq_true (by omega)
   rcases Nat.lt_or_ge 57 c with h2 | h2
   ·have d2 : decide ((c : Int) ≤ 57) = false := decide_eq_false (by omega)
    have d2N : ¬ (c ≤ 57) := by omega
    have HE := hid (show L.digit c = false by rw [HD.out, decide_eq_false d2N, Bool.and_false])
    go_wp2
    go_ret
    exact ⟨k', zfb (by first | rfl | (apply Bool.eq_iff_iff.2; simp only [decide_eq_true_eq]; omega)), hb', ho, hk1, by rw [zf]; exact hk2, HL.out, by rw [HC.out]; exact HE.out⟩
   ·have d2 : decide ((c : Int) ≤ 57) = true := decide_eq_true (by omega)
    have HE := hid (show L.digit c = true by rw [HD.out, decide_eq_true h1, decide_eq_true h2]; rfl)
    have HK := hid (show k' < s.size from HN.out (by omega))
    go_wp2_with fail
    refine (SN.out _ (by exact hn1)).mono ?_
    rintro e w2 ⟨rfl, n1, rfl⟩
    go_wp2
    go_roundw
    case rel => exact ⟨k' + 1, rfl, hn1.drewN _, hn2.drewN _, by omega, HK.out, fun i h1 h2 => by
     rcases Nat.lt_or_ge i k' with h3 | h3
     ·exact HL.out i h1 h3
     ·obtain rfl : i = k' := by omega
      rw [HC.out]; exact HE.out⟩
    case measure => rw [hp _ (by exact hn1.drewN _), HP.out]; have := HK.out; omega
def Tk (l us : List Nat) (k k' : Nat) (ok : Bool) : Prop :=
 (ok = true ∧ k' = k + us.length ∧ ∀ i, i < us.length → at_ l (k + i) = at_ us i) ∨ (ok = false ∧ ∃ j, j < us.length ∧ k' = k + j ∧ (∀ i, i < j → at_ l (k + i) = at_ us i) ∧ at_ l k' ≠ at_ us j)
theorem zga (u : ByteArray) (g : Nat) (s : ByteArray) (k : Nat) (v : Value) (d m : Nat) (w : World) (hb : ScAt w g s k v d m) (hk : k ≤ s.size) (hs : s.size ≤ 65536) (hu : ∀ i, i < u.size → at_ (nb u) i ≠ 0) (hu2 : u.size ≤ 65536) :
  Calls Tryz.prog 161 #[.pointer (some ⟨g, 0, none⟩), .string u] w fun e w' => ∃ k' ok, e = .returned (.bool ok) ∧ ScAt w' g s k' v d m ∧ Sco g w w' ∧ k' ≤ s.size ∧ Tk (nb s) (nb u) k k' ok := by
 go_enter Tryz.func161, Tryz.ntmps161
 go_wp2
 go_loopw [8] (fun i wr => ∃ j : Nat, i = .int .i64 (j : Nat) ∧ j ≤ u.size ∧ ScAt wr g s (k + j) v d m ∧ Sco g w wr ∧ k + j ≤ s.size ∧ (∀ i, i < j → at_ (nb s) (k + i) = at_ (nb u) i)) (fun i _ => u.size - (intOf i).toNat)
 case atStart => exact ⟨0, rfl, by omega, hb, Sco.refl _ _, by omega, fun i h => by omega⟩
 case round =>
  obtain ⟨j, rfl, hj, hb', ho, hk2, hbl⟩ := hrel
  rcases Nat.lt_or_ge j u.size with hlt | hge
  ·have HU := hid (zaz u j hlt)
   have HL := hid hbl
   have hi : (j : Int) < (u.size : Int) := by omega
   have xj := zg j (by omega)
   have hb0 := hb'
   generalize hkj : k + j = kj at *
   have HKJ := hid hkj
   clear hkj
   have x1 := zg kj (by omega)
   have c1 := hb'.c1
   have f1 := hb'.fr 1
   have SN := hid (fun (n : Nat) => zfc g s kj v d m (wr.drewN n) (hb'.drewN n))
   have hn1 := hb'.at' (kj + 1) ((kj : Int) + 1) (by omega)
   have hn2 := ho.set 1 (.int .i64 ((kj : Int) + 1))
   have hlt2 := UInt8.toNat_lt u[j]
   have HNZ := hid (hu j hlt)
   have HIN := hid (@zew s kj)
   clear hbl
   by_cases hc : at_ (nb s) kj = (u[j]).toNat
   ·have HC := hid hc
    have hcI : ((at_ (nb s) kj : Nat) : Int) = ((u[j]).toNat : Int) := by rw [hc]
    generalize hcc : at_ (nb s) kj = c at *
    have HCC := hid hcc
    clear hcc
    go_wp2
    go_quiet ((go_at_call 157; exact zlx (SN.out _)))
    go_wp2
    go_roundw
    case rel => exact ⟨j + 1, rfl, by omega, by rw [← Nat.add_assoc, HKJ.out]; exact hn1.drewN _, hn2.drewN _, by
     have := HIN.out (by rw [HC.out, ← HU.out]; exact HNZ.out)
     have := HKJ.out
     omega, fun i h1 => by
     rcases Nat.lt_or_ge i j with h3 | h3
     ·exact HL.out i h3
     ·obtain rfl : i = j := by omega
      rw [HKJ.out, HCC.out, HC.out, HU.out]⟩
    case measure => simp [intOf]; omega
   ·go_wp2
    go_quiet ((go_at_call 157; exact zlx (SN.out _)))
    go_wp2
    go_ret
    exact ⟨kj, false, rfl, hb'.drewN _, ho.drewN _, hk2, Or.inr ⟨rfl, j, by rw [zf]; exact hlt, HKJ.out.symm, HL.out, by rw [HU.out]; exact hc⟩⟩
  ·obtain rfl : j = u.size := by omega
   go_wp2
   go_ret
   exact ⟨k + u.size, true, rfl, hb', ho, hk2, Or.inl ⟨rfl, by rw [zf], by rw [zf]; exact hbl⟩⟩
theorem Tryz.infoU64S : (Tryz.prog.info? 47).map (fun i => (i.zero, i.size, i.bytes)) = some (some (.int .u64 0), 1, 8) := by kernel_rfl
def L.clr (x r : Nat) : Nat := x &&& (18446744073709551615 - 2 ^ r)
def L.put1 (x r : Nat) (t : Bool) : Nat := if t then clr x r ||| 2 ^ r else clr x r
theorem L.zsj (x r : Nat) (hx : x < 18446744073709551616) : clr x r < 18446744073709551616 := Nat.lt_of_le_of_lt Nat.and_le_left hx
theorem L.zmn (r : Nat) (h : r < 64) : 2 ^ r < 18446744073709551616 := by
 rw [show (18446744073709551616 : Nat) = 2 ^ 64 from by decide]; exact Nat.pow_lt_pow_right (by omega) h
theorem L.z5u (x r : Nat) (t : Bool) (hx : x < 18446744073709551616) (hr : r < 64) : put1 x r t < 18446744073709551616 := by
 unfold put1
 split
 ·rw [show (18446744073709551616 : Nat) = 2 ^ 64 from by decide] at *
  exact Nat.or_lt_two_pow (by have := zsj x r hx; omega) (Nat.pow_lt_pow_right (by omega) hr)
 ·exact zsj x r hx
theorem L.zv9 (x r j : Nat) (hx : x < 18446744073709551616) (hr : r < 64) : (clr x r).testBit j = (x.testBit j && !decide (j = r)) := by
 unfold clr
 rw [Nat.testBit_and]
 have h1 : (18446744073709551615 - 2 ^ r : Nat) = 2 ^ 64 - (2 ^ r + 1) := by
  have := zmn r hr
  rw [show (2 : Nat) ^ 64 = 18446744073709551616 from by decide]; omega
 rw [h1, Nat.testBit_two_pow_sub_succ (by exact Nat.pow_lt_pow_right (by omega) hr), Nat.testBit_two_pow]
 by_cases hj : j < 64
 ·rw [decide_eq_true hj, Bool.true_and]
  by_cases h : r = j
  ·subst h; simp
  ·have : ¬ j = r := fun e => h e.symm
   simp [h, this]
 ·have : x.testBit j = false := Nat.testBit_lt_two_pow (Nat.lt_of_lt_of_le hx (by rw [show (18446744073709551616 : Nat) = 2 ^ 64 from by decide]; exact Nat.pow_le_pow_right (by omega) (by omega)))
  rw [this, Bool.false_and, Bool.false_and]
theorem L.z1x (x r j : Nat) (t : Bool) (hx : x < 18446744073709551616) (hr : r < 64) : (put1 x r t).testBit j = if j = r then t else x.testBit j := by
 unfold put1
 cases t
 ·simp only [Bool.false_eq_true, if_false]
  rw [zv9 x r j hx hr]
  by_cases h : j = r <;> simp [h]
 ·simp only [if_true]
  rw [Nat.testBit_or, zv9 x r j hx hr, Nat.testBit_two_pow]
  by_cases h : j = r
  ·subst h; simp
  ·have : ¬ r = j := fun e => h e.symm
   simp [h, this]
def ws64 (l : List Nat) : List Value := l.map (fun x => Value.int .u64 (x : Nat))
def zcy (ws : List Nat) (st : List Bool) : Prop := (∀ x ∈ ws, x < 18446744073709551616) ∧ st.length ≤ 64 * ws.length ∧ ∀ i, i < st.length → (ws[i / 64]?.getD 0).testBit (i % 64) = st.reverse[i]?.getD false
def SkAt (w : World) (g : Nat) (v : Value) (st : List Bool) : Prop := ∃ ws, w.ownsRow (g + 1) 47 1 v ws.length (ws64 ws) ∧ zcy ws st
theorem zcy.nil : zcy [] [] := ⟨fun x h => by simp at h, by simp, fun i h => by simp at h⟩
theorem zcy.more {ws : List Nat} {st : List Bool} (h : zcy ws st) : zcy (ws ++ [0]) st := by
 refine ⟨fun x hx => ?_, by rw [List.length_append]; have := h.2.1; omega, fun i hi => ?_⟩
 ·rcases List.mem_append.1 hx with h1 | h1
  ·exact h.1 x h1
  ·simp at h1; omega
 ·rw [← h.2.2 i hi, List.getElem?_append_left (by have := h.2.1; omega)]
theorem zcy.pop {ws : List Nat} {t : Bool} {st : List Bool} (h : zcy ws (t :: st)) : zcy ws st := by
 refine ⟨h.1, by have := h.2.1; rw [List.length_cons] at this; omega, fun i hi => ?_⟩
 rw [h.2.2 i (by rw [List.length_cons]; omega), List.reverse_cons, List.getElem?_append_left (by rw [List.length_reverse]; exact hi)]
theorem zcy.push {ws : List Nat} {st : List Bool} (t : Bool) (h : zcy ws st) (hl : st.length < 64 * ws.length) : zcy (ws.set (st.length / 64) (put1 (ws[st.length / 64]?.getD 0) (st.length % 64) t)) (t :: st) := by
 have hq : st.length / 64 < ws.length := by omega
 have hx : ws[st.length / 64]?.getD 0 < 18446744073709551616 := by
  rw [List.getElem?_eq_getElem hq]; exact h.1 _ (List.getElem_mem _)
 refine ⟨fun x hx' => ?_, by rw [List.length_set, List.length_cons]; omega, fun i hi => ?_⟩
 ·rcases List.mem_or_eq_of_mem_set hx' with h1 | h1
  ·exact h.1 x h1
  ·rw [h1]; exact z5u _ _ _ hx (by omega)
 ·rw [List.length_cons] at hi
  rw [List.reverse_cons, List.getElem?_set]
  by_cases hiq : st.length / 64 = i / 64
  ·rw [if_pos hiq, if_pos hq, Option.getD_some, z1x _ _ _ _ hx (by omega)]
   by_cases hie : i = st.length
   ·subst hie
    rw [if_pos rfl, List.getElem?_append_right (by rw [List.length_reverse]; omega), List.length_reverse, Nat.sub_self]; rfl
   ·rw [if_neg (by omega), List.getElem?_append_left (by rw [List.length_reverse]; omega), hiq, h.2.2 i (by omega)]
  ·rw [if_neg hiq, List.getElem?_append_left (by rw [List.length_reverse]; omega), h.2.2 i (by omega)]
theorem zcy.top {ws : List Nat} {t : Bool} {st : List Bool} (h : zcy ws (t :: st)) : (ws[st.length / 64]?.getD 0).testBit (st.length % 64) = t := by
 rw [h.2.2 st.length (by simp), List.reverse_cons, List.getElem?_append_right (by rw [List.length_reverse]; omega), List.length_reverse, Nat.sub_self]; rfl
theorem zdx (g : Nat) (s : ByteArray) (k : Nat) (v : Value) (d m : Nat) (t : Bool) (st : List Bool) (w : World) (hb : ScAt w g s k v d m) (hd : d = st.length + 1) (hd2 : d ≤ 65536) (hk : SkAt w g v (t :: st)) :
  Calls Tryz.prog 163 #[.pointer (some ⟨g, 0, none⟩)] w fun e w' => e = .returned (.bool t) ∧ ∃ n, w' = w.drewN n := by
 obtain ⟨ws, hown, ht⟩ := hk
 have hl := ht.2.1
 rw [List.length_cons] at hl
 obtain ⟨g1, cap, rfl, _, hlt⟩ := hown.form (by omega)
 obtain ⟨q, hq⟩ : ∃ q, q = st.length / 64 := ⟨_, rfl⟩
 obtain ⟨x, hx⟩ : ∃ x, ws[q]? = some x := ⟨_, List.getElem?_eq_getElem (by omega)⟩
 have hx64 : x < 18446744073709551616 := ht.1 x (List.mem_of_getElem? hx)
 have cw : w.cell? ⟨g1, q, none⟩ = some (.int .u64 (x : Nat)) := by
  rw [hown.cellAt q (by omega), ws64, List.getElem?_map, hx]; rfl
 have htop := ht.top
 rw [← hq, hx, Option.getD_some] at htop
 obtain ⟨r, hr⟩ : ∃ r, r = st.length % 64 := ⟨_, rfl⟩
 rw [← hr] at htop
 have hr64 : r < 64 := by omega
 have c2 := hb.c2
 have c3 := hb.c3
 have w1 := znj d (by omega)
 have e1 : ((d : Int) - 1) / 64 = (q : Int) := by omega
 have e2 : ((d : Int) - 1) % 64 = (r : Int) := by omega
 have e3 : IntKind.i64.wrap (q : Int) = (q : Int) := by rw [IntKind.wrap_i64]; omega
 have hqi : (q : Int) < (ws.length : Int) := by omega
 have hqn : q < ws.length := by omega
 have h0 : 0 < d := by omega
 have h0i : decide ((d : Int) > 0) = true := decide_eq_true (by omega)
 have hv := zr0 x ((r : Nat) : Int) hx64 (by omega) (by omega)
 rw [zrz _ _ hr64, htop] at hv
 rw [show ((r : Nat) : Int).toNat = r from by omega] at hv
 have HV := hid hv
 have HH := hid hl
 clear hl hv htop hq hr hd ht hown hx
 go_enter Tryz.func163, Tryz.ntmps163
 go_wp2
 go_quiet (fail)
 go_wp2
 go_ret
 exact ⟨zfb HV.out, _, rfl⟩
theorem znk (x r : Nat) (hx : x < 18446744073709551616) (hr : r < 64) : bits BinOp.andNot IntKind.u64 (x : Int) (IntKind.u64.wrap (2 ^ r)) = ((clr x r : Nat) : Int) := by
 have h := zmn r hr
 have e : IntKind.u64.wrap ((2 : Int) ^ r) = ((2 ^ r : Nat) : Int) := by
  rw [IntKind.wrap_u64]
  have : ((2 : Int) ^ r) = ((2 ^ r : Nat) : Int) := by simp
  rw [this]; generalize 2 ^ r = y at h ⊢; omega
 rw [e, u64_andNot_nat _ _ hx h]; rfl
theorem zwa (x r : Nat) (hx : x < 18446744073709551616) (hr : r < 64) : bits BinOp.or IntKind.u64 ((clr x r : Nat) : Int) (IntKind.u64.wrap (2 ^ r)) = ((put1 x r true : Nat) : Int) := by
 have h := zmn r hr
 have e : IntKind.u64.wrap ((2 : Int) ^ r) = ((2 ^ r : Nat) : Int) := by
  rw [IntKind.wrap_u64]
  have : ((2 : Int) ^ r) = ((2 ^ r : Nat) : Int) := by simp
  rw [this]; generalize 2 ^ r = y at h ⊢; omega
 rw [e, u64_or_nat _ _ (zsj x r hx) h]; rfl
structure PW (w W : World) (g g1 q x : Nat) (s : ByteArray) (k : Nat) (v : Value) (d m : Nat) (ws : List Nat) : Prop where
 sc : ScAt W g s k v d m
 own : W.ownsRow (g + 1) 47 1 v ws.length (ws64 ws)
 be : Below g w W
section
variable {w W : World} {g g1 q x : Nat} {s : ByteArray} {k : Nat} {v : Value} {d m : Nat} {ws : List Nat}
theorem PW.drewN (h : PW w W g g1 q x s k v d m ws) (n : Nat) : PW w (W.drewN n) g g1 q x s k v d m ws := ⟨h.sc.drewN n, h.own, below_drewN h.be n⟩
theorem PW.drew (h : PW w W g g1 q x s k v d m ws) : PW w W.drew g g1 q x s k v d m ws := ⟨h.sc, h.own, h.be.drew⟩
theorem PW.cell {n cap : Nat} (h : PW w W g g1 q x s k (.slice (some ⟨g1, 0, none⟩) n cap) d m ws) (hq : q < ws.length) (hx : ws[q]? = some x) : W.cell? ⟨g1, q, none⟩ = some (.int .u64 (x : Nat)) := by
 obtain ⟨g2, cap2, hv, _, _⟩ := h.own.form (by omega)
 simp only [Value.slice.injEq, Option.some.injEq, Addr.mk.injEq] at hv
 obtain ⟨⟨rfl, _⟩, rfl, rfl⟩ := hv
 rw [h.own.cellAt q (by omega), ws64, List.getElem?_map, hx]; rfl
theorem z1y (ws : List Nat) (q y : Nat) : ws64 (ws.set q y) = (ws64 ws).set q (.int .u64 (y : Nat)) := by rw [ws64, List.map_set]; rfl
theorem PW.set {n cap : Nat} (h : PW w W g g1 q x s k (.slice (some ⟨g1, 0, none⟩) n cap) d m ws) (hq : q < ws.length) (y : Nat) (i : Int) (hi : i = (y : Nat)) :
  PW w (W.setCell ⟨g1, q, none⟩ (.int .u64 i)) g g1 q y s k (.slice (some ⟨g1, 0, none⟩) n cap) d m (ws.set q y) := by
 subst hi
 obtain ⟨g2, cap2, hv, hg, hlt⟩ := h.own.form (by omega)
 simp only [Value.slice.injEq, Option.some.injEq, Addr.mk.injEq] at hv
 obtain ⟨⟨rfl, _⟩, rfl, rfl⟩ := hv
 have hst := h.own.stored q (.int .u64 (y : Nat))
 refine ⟨za.far h.sc (p := ⟨g1, q, none⟩) (by show g ≠ g1; omega) _, ?_, h.be.setCell (by show g ≤ g1; omega) _⟩
 rw [z1y, List.length_set]; exact hst.1
theorem PW.depth {v : Value} (h : PW w W g g1 q x s k v d m ws) (i : Int) (hi : i = (d + 1 : Nat)) : PW w (W.setCell ⟨g, 3, none⟩ (.int .i64 i)) g g1 q x s k v (d + 1) m ws := by
 subst hi
 exact ⟨za.put h.sc 3 _, zac h.own ((Only.refl (fun i => i = g) W).setCell (p := ⟨g, 3, none⟩) (.inl rfl) _) (fun j hj e => by have := (h.own.lt _ hj).1; omega), h.be.setCell (by show g ≤ g; omega) _⟩
theorem PW.mx {v : Value} (h : PW w W g g1 q x s k v d m ws) (m' : Nat) (i : Int) (hi : i = (m' : Nat)) : PW w (W.setCell ⟨g, 4, none⟩ (.int .i64 i)) g g1 q x s k v d m' ws := by
 subst hi
 exact ⟨za.put h.sc 4 _, zac h.own ((Only.refl (fun i => i = g) W).setCell (p := ⟨g, 4, none⟩) (.inl rfl) _) (fun j hj e => by have := (h.own.lt _ hj).1; omega), h.be.setCell (by show g ≤ g; omega) _⟩
theorem PW.pos {v : Value} (h : PW w W g g1 q x s k v d m ws) (k' : Nat) (i : Int) (hi : i = (k' : Nat)) : PW w (W.setCell ⟨g, 1, none⟩ (.int .i64 i)) g g1 q x s k' v d m ws := by
 subst hi
 exact ⟨za.put h.sc 1 _, zac h.own ((Only.refl (fun i => i = g) W).setCell (p := ⟨g, 1, none⟩) (.inl rfl) _) (fun j hj e => by have := (h.own.lt _ hj).1; omega), h.be.setCell (by show g ≤ g; omega) _⟩
end
theorem z1z (g : Nat) (s : ByteArray) (k : Nat) (v : Value) (d m : Nat) (t : Bool) (st : List Bool) (w : World) (hb : ScAt w g s k v d m) (hd : d = st.length) (hd2 : d ≤ 65536) (hk : k ≤ 65536) (hm : m ≤ 65536) (ws : List Nat) (hown : w.ownsRow (g + 1) 47 1 v ws.length (ws64 ws)) (ht : zcy ws st) (hl : st.length < 64 * ws.length) :
  Calls Tryz.prog 158 #[.pointer (some ⟨g, 0, none⟩), .bool t] w fun e w' => e = .returned (.tuple #[]) ∧ ScAt w' g s (k + 1) v (d + 1) (max m (d + 1)) ∧ SkAt w' g v (t :: st) ∧ Below g w w' := by
 obtain ⟨g1, cap, rfl, hg1, hlt⟩ := hown.form (by omega)
 obtain ⟨q, hq⟩ : ∃ q, q = st.length / 64 := ⟨_, rfl⟩
 obtain ⟨x, hx⟩ : ∃ x, ws[q]? = some x := ⟨_, List.getElem?_eq_getElem (by omega)⟩
 have hx64 : x < 18446744073709551616 := ht.1 x (List.mem_of_getElem? hx)
 have cw : w.cell? ⟨g1, q, none⟩ = some (.int .u64 (x : Nat)) := by
  rw [hown.cellAt q (by omega), ws64, List.getElem?_map, hx]; rfl
 have fw := hown.frozenAt q
 have hne : g ≠ g1 := by omega
 have hpush := ht.push t hl
 obtain ⟨r, hr⟩ : ∃ r, r = st.length % 64 := ⟨_, rfl⟩
 rw [← hq, ← hr, hx, Option.getD_some] at hpush
 have hr64 : r < 64 := by omega
 have c1 := hb.c1
 have c2 := hb.c2
 have c3 := hb.c3
 have c4 := hb.c4
 have f1 := hb.fr 1
 have f3 := hb.fr 3
 have f4 := hb.fr 4
 have x1 := zg k (by omega)
 have x3 := zg d (by omega)
 have e1 : (d : Int) / 64 = (q : Int) := by omega
 have e2 : (d : Int) % 64 = (r : Int) := by omega
 have e3 : IntKind.i64.wrap (q : Int) = (q : Int) := by rw [IntKind.wrap_i64]; omega
 have e4 : IntKind.i64.wrap (r : Int) = (r : Int) := by rw [IntKind.wrap_i64]; omega
 have e5 : (d : Int).tmod 64 = (r : Int) := by rw [Int.tmod_eq_emod_of_nonneg (by omega)]; exact e2
 have r0 : (0 : Int) ≤ (r : Int) := by omega
 have r1 : ¬ ((r : Int) < 0) := by omega
 have hqi : (q : Int) < (ws.length : Int) := by omega
 have hqe : ¬ ((q : Int) = (ws.length : Int)) := by omega
 have hqb : ((q : Int) == (ws.length : Int)) = false := by rw [beq_eq_false_iff_ne]; exact hqe
 have hqn : q < ws.length := by omega
 have a1 := znk x r hx64 hr64
 have a2 := zwa x r hx64 hr64
 have P0 : PW w w g g1 q x s k (.slice (some ⟨g1, 0, none⟩) ws.length cap) d m ws := ⟨hb, hown, Below.refl _ _⟩
 have HX := hid (And.intro hd (And.intro hq (And.intro hr (And.intro hx (And.intro hl hpush)))))
 clear hd hq hr hx hl hpush ht hown hb
 go_enter Tryz.func158, Tryz.ntmps158
 go_wp2
 go_quiet (fail)
 go_wp2
 go_quiet (fail)
 go_wp2
 generalize hW : (w.drewN _).drewN _ = W
 have P1 : PW w W g g1 q x s k (.slice (some ⟨g1, 0, none⟩) ws.length cap) d m ws := by rw [← hW]; exact (P0.drewN _).drewN _
 clear hW P0 c1 c2 c3 c4 f1 f3 f4 cw fw
 have c1 := P1.sc.c1
 have c2 := P1.sc.c2
 have c3 := P1.sc.c3
 have c4 := P1.sc.c4
 have f1 := P1.sc.fr 1
 have f3 := P1.sc.fr 3
 have f4 := P1.sc.fr 4
 have cw := P1.cell hqn HX.out.2.2.2.1
 have fw := P1.own.frozenAt q
 cases t
 ·go_still_tail 11, (by kernel_rfl)
  change wpList _ _ _ _ _ W.drew
  go_wp2
  generalize hW3 : World.drew (World.setCell (World.setCell W _ _) _ _) = W3
  have P3 : PW w W3 g g1 q (clr x r) s k (.slice (some ⟨g1, 0, none⟩) ws.length cap) (d + 1) m (ws.set q (clr x r)) := by rw [← hW3]; exact ((P1.set hqn (clr x r) _ rfl).depth _ (by omega)).drew
  clear hW3
  have c1 := P3.sc.c1
  have c3 := P3.sc.c3
  have c4 := P3.sc.c4
  have f1 := P3.sc.fr 1
  have f4 := P3.sc.fr 4
  have hmx : max (m : Int) ((d : Int) + 1) = ((max m (d + 1) : Nat) : Int) := by omega
  have hmd : ((d + 1 : Nat) : Int) = (d : Int) + 1 := by omega
  rw [hmd] at c3
  go_still_tail 12, (by kernel_rfl)
  change wpList _ _ _ _ _ W3.drew
  go_wp2
  go_end0
  have P4 := ((P3.mx (max m (d + 1)) _ rfl).pos (k + 1) ((k : Int) + 1) (by omega)).drew
  have hOUT := HX.out.2.2.2.2.2
  exact ⟨rfl, P4.sc, ⟨_, P4.own, hOUT⟩, P4.be⟩
 ·go_still_tail 11, (by kernel_rfl)
  change wpList _ _ _ _ _ W.drew
  go_wp2
  generalize hW2 : World.drew (World.setCell W _ _) = W2
  have P2 : PW w W2 g g1 q (clr x r) s k (.slice (some ⟨g1, 0, none⟩) ws.length cap) d m (ws.set q (clr x r)) := by rw [← hW2]; exact (P1.set hqn (clr x r) _ rfl).drew
  clear hW2 cw c1 c2 c3 c4
  have c1 := P2.sc.c1
  have c2 := P2.sc.c2
  have c3 := P2.sc.c3
  have c4 := P2.sc.c4
  have f3 := P2.sc.fr 3
  have hqn2 : q < (ws.set q (clr x r)).length := by rw [List.length_set]; exact hqn
  have cw := P2.cell hqn2 (by rw [List.getElem?_set, if_pos rfl, if_pos hqn])
  have hown2 := P2.own
  rw [List.length_set] at hown2
  have fw := hown2.frozenAt q
  go_still_tail 11, (by kernel_rfl)
  change wpList _ _ _ _ _ W2.drew
  go_wp2
  generalize hW3 : World.drew (World.setCell (World.setCell W2 _ _) _ _) = W3
  have P3 : PW w W3 g g1 q (put1 x r true) s k (.slice (some ⟨g1, 0, none⟩) ws.length cap) (d + 1) m ((ws.set q (clr x r)).set q (put1 x r true)) := by rw [← hW3]; exact ((P2.set hqn2 (put1 x r true) _ rfl).depth _ (by omega)).drew
  clear hW3
  have c1 := P3.sc.c1
  have c3 := P3.sc.c3
  have c4 := P3.sc.c4
  have f1 := P3.sc.fr 1
  have f4 := P3.sc.fr 4
  have hmx : max (m : Int) ((d : Int) + 1) = ((max m (d + 1) : Nat) : Int) := by omega
  have hmd : ((d + 1 : Nat) : Int) = (d : Int) + 1 := by omega
  rw [hmd] at c3
  go_still_tail 12, (by kernel_rfl)
  change wpList _ _ _ _ _ W3.drew
  go_wp2
  go_end0
  have P4 := ((P3.mx (max m (d + 1)) _ rfl).pos (k + 1) ((k : Int) + 1) (by omega)).drew
  have hOUT := HX.out.2.2.2.2.2
  have hss : (ws.set q (clr x r)).set q (put1 x r true) = ws.set q (put1 x r true) := List.set_set ..
  rw [hss] at P4
  exact ⟨rfl, P4.sc, ⟨_, P4.own, hOUT⟩, P4.be⟩
theorem zzk (g : Nat) (s : ByteArray) (k : Nat) (v : Value) (d m : Nat) (t : Bool) (st : List Bool) (w : World) (hb : ScAt w g s k v d m) (hd : d = st.length) (hd2 : d ≤ 65536) (hk : k ≤ 65536) (hm : m ≤ 65536) (ws0 : List Nat) (hown : w.ownsRow (g + 1) 47 1 v ws0.length (ws64 ws0)) (ht0 : zcy ws0 st) (hl0 : st.length = 64 * ws0.length) :
  Calls Tryz.prog 158 #[.pointer (some ⟨g, 0, none⟩), .bool t] w fun e w' => e = .returned (.tuple #[]) ∧ ∃ v', ScAt w' g s (k + 1) v' (d + 1) (max m (d + 1)) ∧ SkAt w' g v' (t :: st) ∧ Below g w w' := by
 obtain ⟨A, cA, rfl⟩ := zam hown
 obtain ⟨i0, hi0, hz0, hz1, hz2⟩ := info_parts Tryz.infoU64S
 obtain ⟨q, hq0⟩ : ∃ q, q = ws0.length := ⟨_, rfl⟩
 have hq : q = st.length / 64 := by omega
 have ht := ht0.more
 have hl : st.length < 64 * (ws0 ++ [0]).length := by rw [List.length_append]; simp; omega
 have hpush := ht.push t hl
 obtain ⟨r, hr⟩ : ∃ r, r = st.length % 64 := ⟨_, rfl⟩
 rw [← hq, ← hr, show (ws0 ++ [0])[q]? = some 0 from by rw [hq0, List.getElem?_append_right (by omega), Nat.sub_self]; rfl, Option.getD_some] at hpush
 have hr64 : r < 64 := by omega
 have hgw := za.lt hb
 have c1 := hb.c1
 have c2 := hb.c2
 have c3 := hb.c3
 have x1 := zg k (by omega)
 have x3 := zg d (by omega)
 have e1 : (d : Int) / 64 = (q : Int) := by omega
 have e2 : (d : Int) % 64 = (r : Int) := by omega
 have e3 : IntKind.i64.wrap (q : Int) = (q : Int) := by rw [IntKind.wrap_i64]; omega
 have e4 : IntKind.i64.wrap (r : Int) = (r : Int) := by rw [IntKind.wrap_i64]; omega
 have e5 : (d : Int).tmod 64 = (r : Int) := by rw [Int.tmod_eq_emod_of_nonneg (by omega)]; exact e2
 have r0 : (0 : Int) ≤ (r : Int) := by omega
 have r1 : ¬ ((r : Int) < 0) := by omega
 have hqe : (q : Int) = (ws0.length : Int) := by omega
 have hqb : ((q : Int) == (ws0.length : Int)) = true := by rw [beq_iff_eq]; exact hqe
 have hne0 : (Value.slice A ws0.length cA).ownBlock ≠ some g := fun e => by have := (hown.lt _ e).1; omega
 have hwl : ws0.length ≤ 2000 := by omega
 have HXA := hid (And.intro hd (And.intro hq hr))
 have HPU := hid hpush
 have P00 := Below.refl g w
 clear hd hq hr hl hpush ht ht0 hl0
 rw [← hq0] at hown hb c2 hne0 hwl
 have HQ0 := hid hq0
 clear hqe hqb hq0
 go_enter Tryz.func158, Tryz.ntmps158
 go_wp2
 go_quiet (fail)
 go_wp2_with (at_builtin
              go_must (refine zaa _ rfl (.tmp 20) (.tmp 21) _ rfl (g + 1) 47 i0 _ 8 Tryz.underlying124 hi0 hz0 hz1 hz2 rfl (.slice A q cA) q (ws64 ws0) rfl ?hown (some ⟨w.heap.size, 0, none⟩) 1 1 [.int .u64 0] rfl ?hls rfl ?hone ?h63 ?hby ?hbs (w.heap.size + 1) ?hH ?_)
              go_must (case hown => exact World.ownsRow.alloc (show (w.drewN _).ownsRow (g + 1) 47 1 (.slice A q cA) q (ws64 ws0) from hown) _)
              go_must (case hls => exact zc3 (w.drewN _) _ _ _ (by simp))
              go_must (case hone => simp [Value.oneCell'])
              go_must (case h63 => simp only [maxLen]; omega)
              go_must (case hby => omega)
              go_must (case hbs => simp; omega)
              go_must (case hH => simp)
              intro A1 c1' w1 hown1 hgr1 hat1
              have hb1 : ScAt w1 g s k (.slice A q cA) d m := (show za ((w.drewN _).alloc _) g _ _ from za.alloc (show za (w.drewN _) g _ _ from hb) _).kept (hgr1.block g (by simp; omega) hne0.symm)
              have f2 := hb1.fr 2
              have k2 := hb1.c2)
 obtain ⟨g1, cap, hv, hg1, hlt⟩ := hown1.form (by omega)
 simp only [Value.slice.injEq] at hv
 obtain ⟨rfl, _, rfl⟩ := hv
 have hbe1 : Below g w w1 := ((below_drewN P00 nq).alloc (by simp; omega) (.cells #[.int .u64 0] 47)).grown hgr1 (by simp; omega) (fun i hi => by have := (hown.lt i hi).1; omega)
 have hWL : (ws0 ++ [0]).length = q + 1 := by rw [List.length_append, HQ0.out]; rfl
 have hW64 : ws64 (ws0 ++ [0]) = ws64 ws0 ++ [.int .u64 0] := by simp [ws64]
 have PU := HPU.out
 clear HPU
 have hqn : q < (ws0 ++ [0]).length := by omega
 have hx0 : (ws0 ++ [0])[q]? = some 0 := by rw [HQ0.out, List.getElem?_append_right (by omega), Nat.sub_self]; rfl
 generalize hws : ws0 ++ [0] = ws at *
 rw [← hW64, ← hWL] at hown1
 rw [← hWL]
 have P0 : PW w (w1.setCell ⟨g, 2, none⟩ (.slice (some ⟨g1, 0, none⟩) ws.length c1')) g g1 q 0 s k (.slice (some ⟨g1, 0, none⟩) ws.length c1') d m ws :=
  ⟨za.put hb1 2 _, zac hown1 ((Only.refl (fun i => i = g) w1).setCell (p := ⟨g, 2, none⟩) (.inl rfl) _) (fun j hj e => by have := (hown1.lt _ hj).1; omega), hbe1.setCell (by show g ≤ g; omega) _⟩
 generalize hW0 : w1.setCell ⟨g, 2, none⟩ (.slice (some ⟨g1, 0, none⟩) ws.length c1') = W0 at *
 clear c1 c2 c3 f2 k2 hW0 hown1 hb1 hbe1 hgr1 hat1
 have c1 := P0.sc.c1
 have c2 := P0.sc.c2
 have c3 := P0.sc.c3
 have hqi : (q : Int) < (ws.length : Int) := by omega
 go_quiet (fail)
 go_wp2
 generalize hW : World.drewN W0 _ = W
 have P1 : PW w W g g1 q 0 s k (.slice (some ⟨g1, 0, none⟩) ws.length c1') d m ws := by rw [← hW]; exact P0.drewN _
 clear hW P0 c1 c2 c3
 have c1 := P1.sc.c1
 have c2 := P1.sc.c2
 have c3 := P1.sc.c3
 have c4 := P1.sc.c4
 have f1 := P1.sc.fr 1
 have f3 := P1.sc.fr 3
 have f4 := P1.sc.fr 4
 have cw := P1.cell hqn hx0
 have fw := P1.own.frozenAt q
 obtain ⟨x, hx⟩ : ∃ x, x = 0 := ⟨_, rfl⟩
 rw [← hx] at PU cw
 replace P1 : PW w W g g1 q x s k (.slice (some ⟨g1, 0, none⟩) ws.length c1') d m ws := ⟨P1.sc, P1.own, P1.be⟩
 have hx64 : x < 18446744073709551616 := by omega
 have HX := hid (show True ∧ True ∧ True ∧ True ∧ True ∧ zcy (ws.set q (put1 x r t)) (t :: st) from ⟨trivial, trivial, trivial, trivial, trivial, PU⟩)
 clear PU hx0 hx
 have a1 := znk x r hx64 hr64
 have a2 := zwa x r hx64 hr64
 cases t
 ·go_still_tail 11, (by kernel_rfl)
  change wpList _ _ _ _ _ W.drew
  go_wp2
  generalize hW3 : World.drew (World.setCell (World.setCell W _ _) _ _) = W3
  have P3 : PW w W3 g g1 q (clr x r) s k (.slice (some ⟨g1, 0, none⟩) ws.length c1') (d + 1) m (ws.set q (clr x r)) := by rw [← hW3]; exact ((P1.set hqn (clr x r) _ rfl).depth _ (by omega)).drew
  clear hW3
  have c1 := P3.sc.c1
  have c3 := P3.sc.c3
  have c4 := P3.sc.c4
  have f1 := P3.sc.fr 1
  have f4 := P3.sc.fr 4
  have hmx : max (m : Int) ((d : Int) + 1) = ((max m (d + 1) : Nat) : Int) := by omega
  have hmd : ((d + 1 : Nat) : Int) = (d : Int) + 1 := by omega
  rw [hmd] at c3
  go_still_tail 12, (by kernel_rfl)
  change wpList _ _ _ _ _ W3.drew
  go_wp2
  go_end0
  have P4 := ((P3.mx (max m (d + 1)) _ rfl).pos (k + 1) ((k : Int) + 1) (by omega)).drew
  have hOUT := HX.out.2.2.2.2.2
  exact ⟨rfl, _, P4.sc, ⟨_, P4.own, hOUT⟩, P4.be⟩
 ·go_still_tail 11, (by kernel_rfl)
  change wpList _ _ _ _ _ W.drew
  go_wp2
  generalize hW2 : World.drew (World.setCell W _ _) = W2
  have P2 : PW w W2 g g1 q (clr x r) s k (.slice (some ⟨g1, 0, none⟩) ws.length c1') d m (ws.set q (clr x r)) := by rw [← hW2]; exact (P1.set hqn (clr x r) _ rfl).drew
  clear hW2 cw c1 c2 c3 c4
  have c1 := P2.sc.c1
  have c2 := P2.sc.c2
  have c3 := P2.sc.c3
  have c4 := P2.sc.c4
  have f3 := P2.sc.fr 3
  have hqn2 : q < (ws.set q (clr x r)).length := by rw [List.length_set]; exact hqn
  have cw := P2.cell hqn2 (by rw [List.getElem?_set, if_pos rfl, if_pos hqn])
  have hown2 := P2.own
  rw [List.length_set] at hown2
  have fw := hown2.frozenAt q
  go_still_tail 11, (by kernel_rfl)
  change wpList _ _ _ _ _ W2.drew
  go_wp2
  generalize hW3 : World.drew (World.setCell (World.setCell W2 _ _) _ _) = W3
  have P3 : PW w W3 g g1 q (put1 x r true) s k (.slice (some ⟨g1, 0, none⟩) ws.length c1') (d + 1) m ((ws.set q (clr x r)).set q (put1 x r true)) := by rw [← hW3]; exact ((P2.set hqn2 (put1 x r true) _ rfl).depth _ (by omega)).drew
  clear hW3
  have c1 := P3.sc.c1
  have c3 := P3.sc.c3
  have c4 := P3.sc.c4
  have f1 := P3.sc.fr 1
  have f4 := P3.sc.fr 4
  have hmx : max (m : Int) ((d : Int) + 1) = ((max m (d + 1) : Nat) : Int) := by omega
  have hmd : ((d + 1 : Nat) : Int) = (d : Int) + 1 := by omega
  rw [hmd] at c3
  go_still_tail 12, (by kernel_rfl)
  change wpList _ _ _ _ _ W3.drew
  go_wp2
  go_end0
  have P4 := ((P3.mx (max m (d + 1)) _ rfl).pos (k + 1) ((k : Int) + 1) (by omega)).drew
  have hOUT := HX.out.2.2.2.2.2
  have hss : (ws.set q (clr x r)).set q (put1 x r true) = ws.set q (put1 x r true) := List.set_set ..
  rw [hss] at P4
  exact ⟨rfl, _, P4.sc, ⟨_, P4.own, hOUT⟩, P4.be⟩
theorem zp3 (g : Nat) (s : ByteArray) (k : Nat) (v : Value) (d m : Nat) (t : Bool) (st : List Bool) (w : World) (hb : ScAt w g s k v d m) (hd : d = st.length) (hd2 : d ≤ 65536) (hk : k ≤ 65536) (hm : m ≤ 65536) (hs : SkAt w g v st) :
  Calls Tryz.prog 158 #[.pointer (some ⟨g, 0, none⟩), .bool t] w fun e w' => e = .returned (.tuple #[]) ∧ ∃ v', ScAt w' g s (k + 1) v' (d + 1) (max m (d + 1)) ∧ SkAt w' g v' (t :: st) ∧ Below g w w' := by
 obtain ⟨ws, hown, ht⟩ := hs
 rcases Nat.lt_or_ge st.length (64 * ws.length) with h | h
 ·refine (z1z g s k v d m t st w hb hd hd2 hk hm ws hown ht h).mono ?_
  rintro e w' ⟨rfl, h1, h2, h3⟩
  exact ⟨rfl, v, h1, h2, h3⟩
 ·exact zzk g s k v d m t st w hb hd hd2 hk hm ws hown ht (by have := ht.2.1; omega)
end Go.Proofs.YtgpbpgpolpakjaaGreatDoor
