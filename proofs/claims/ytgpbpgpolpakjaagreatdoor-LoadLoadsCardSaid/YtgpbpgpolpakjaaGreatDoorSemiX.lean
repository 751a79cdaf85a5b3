/- Proof text. -/
import Derived.Test.YtgpbpgpolpakjaaGreatDoorSemiW
import Derived.Test.YtgpbpgpolpakjaaGreatDoorFanoR
import Derived.Laws.ResultCell
import Derived.Test.YtgpbpgpolpakjaaGreatDoorSemiV
set_option maxHeartbeats 4000000
set_option linter.unusedVariables false
set_option linter.unusedSimpArgs false
namespace Go.Proofs.YtgpbpgpolpakjaaGreatDoor
open Go.RowKit Go.Shelf L
def L.zaw (l : List UInt8) (m : List Nat) (B : Nat) (R : List Bool) : Prop :=
 8 ≤ l.length ∧ valL l ≤ l.length - 8 ∧ zcj ((l.drop 8).take (valL l)) ∧ zcd (zcb ((l.drop 8).take (valL l)) (valL ((l.drop 8).take (valL l)))) m B ∧
   zcj (l.drop (8 + valL l)) ∧ R = zcb (l.drop (8 + valL l)) (valL (l.drop (8 + valL l))) ∧ bal (zb R) R.length = true
def L.seqL (m : List Nat) (B : Nat) : List UInt8 := zy (seqB (wd m.length B) (top m B) m B)
def L.idxL (m : List Nat) (B : Nat) (R : List Bool) : List UInt8 := leB (seqL m B).length 8 ++ (seqL m B ++ zy R)
theorem L.z3y {l : List UInt8} (h : 8 ≤ l.length) : leB (valL l) 8 = l.take 8 := by
 have := zg3 (l.take 8)
 rw [List.length_take, Nat.min_eq_left h] at this
 exact this
theorem L.zaw.bytes {l : List UInt8} {m : List Nat} {B : Nat} {R : List Bool} (h : zaw l m B R) : l = idxL m B R := by
 obtain ⟨h1, h2, h3, h4, h5, h6, h7⟩ := h
 have e1 := z3y h1
 have e2 := zm8 h3
 have e3 := zm8 h5
 rw [h4.2.2] at e2
 rw [← h6] at e3
 have e4 : (seqL m B).length = valL l := by
  show (zy (seqB (wd m.length B) (top m B) m B)).length = _
  rw [e2, List.length_take, List.length_drop]; omega
 unfold idxL
 rw [e4, e1, e3]
 show l = _ ++ (zy (seqB (wd m.length B) (top m B) m B) ++ _)
 rw [e2, ← List.drop_drop, List.take_append_drop, List.take_append_drop]
theorem L.zaw.of {m : List Nat} {B : Nat} {R : List Bool} (hr : zas m B) (hm : m.length < 16777216) (hs : (seqB (wd m.length B) (top m B) m B).length ≤ 4294967296) (hR : R.length ≤ 4294967296) (hb : bal (zb R) R.length = true) : zaw (idxL m B R) m B R := by
 have hx : seqL m B = zy (seqB (wd m.length B) (top m B) m B) := rfl
 have hl : (seqL m B).length = 8 + 8 * zh (seqB (wd m.length B) (top m B) m B).length := by rw [hx, zdo]
 have hlt : (seqL m B).length < 256 ^ 8 := by rw [hl]; unfold zh; omega
 have hlen : (idxL m B R).length = 8 + ((seqL m B).length + (zy R).length) := by unfold idxL; rw [List.length_append, List.length_append, ze]
 have hv : valL (idxL m B R) = (seqL m B).length := by
  unfold valL idxL
  rw [List.take_append_of_le_length (by rw [ze]; omega), List.take_of_length_le (by rw [ze]; omega), zix, Nat.mod_eq_of_lt hlt]
 have hd : (idxL m B R).drop 8 = seqL m B ++ zy R := by unfold idxL; rw [List.drop_left' (ze _ _)]
 have ht : ((idxL m B R).drop 8).take (valL (idxL m B R)) = zy (seqB (wd m.length B) (top m B) m B) := by rw [hd, hv, List.take_left]; rfl
 have hd2 : (idxL m B R).drop (8 + valL (idxL m B R)) = zy R := by rw [← List.drop_drop, hd, hv, List.drop_left]
 refine ⟨by omega, by rw [hv, hlen]; omega, ?_, ?_, ?_, ?_, hb⟩
 ·rw [ht]; exact zr5 _ hs
 ·rw [ht, zh9 _ hs, zr4]; exact ⟨hr, hm, rfl⟩
 ·rw [hd2]; exact zr5 _ hR
 ·rw [hd2, zh9 _ hR, zr4]
theorem L.zaw.uniq {l : List UInt8} {m m' : List Nat} {B B' : Nat} {R R' : List Bool} (h : zaw l m B R) (h' : zaw l m' B' R') : m = m' ∧ B = B' ∧ R = R' := by
 obtain ⟨h1, h2, h3, h4, h5, h6, h7⟩ := h
 obtain ⟨g1, g2, g3, g4, g5, g6, g7⟩ := h'
 have := h4.uniq g4
 exact ⟨this.1, this.2, h6.trans g6.symm⟩
theorem L.zqn (l : List Nat) : (idxS l).data.toList = idxL (places l) (bndN l) (zl l) := by
 unfold idxS idxL
 rw [ByteArray.data_append, ByteArray.data_append, Array.toList_append, Array.toList_append, List.append_assoc]
 rfl
theorem zqo {s t : ByteArray} (h : s.data.toList = t.data.toList) : s = t := by
 apply ByteArray.ext
 exact Array.toList_inj.1 h
theorem L.zqp {l : List Nat} {deep : Nat} (ht : Text l deep) (h : l.length ≤ 65536) (hm : (places l).length ≤ 10000) : zaw (idxS l).data.toList (places l) (bndN l) (zl l) := by
 rw [zqn]
 have hr := zb5 (l := l) (by omega)
 have hf := zc7 h hm
 have hlen := zeu (wd (places l).length (bndN l)) (top (places l) (bndN l)) (places l) (bndN l) (hr.up _) (Nat.le_trans (hr.last _) (Nat.le_succ _))
 have hwd := zey (places l).length (bndN l) hr.1.2
 have h2 : (places l).length * wd (places l).length (bndN l) ≤ 10000 * 40 := Nat.mul_le_mul hm hwd
 have h3 := hf.2
 have h4 : top (places l) (bndN l) = (bndN l - 1) / 2 ^ wd (places l).length (bndN l) + 1 := rfl
 have hp : (zl l).length = 2 * (places l).length := by rw [zbz, zah]
 refine zaw.of hr (by omega) ?_ (by omega) (zsw ht.1 ht.2.1)
 rw [hlen, h4]
 omega
theorem L.z7a {l : List Nat} {deep : Nat} {t : ByteArray} {m : List Nat} {B : Nat} {R : List Bool} (ht : Text l deep) (h : l.length ≤ 65536) (hm : (places l).length ≤ 10000) (hg : zaw t.data.toList m B R) :
  t = idxS l ↔ (m = places l ∧ B = bndN l ∧ R = zl l) := by
 constructor
 ·rintro rfl
  exact hg.uniq (zqp ht h hm)
 ·rintro ⟨rfl, rfl, rfl⟩
  exact zqo (hg.bytes.trans (zqn l).symm)
theorem L.z8n (n B : Nat) (hn : 0 < n) (hB : 0 < B) (hB2 : B ≤ 1099511627776) : n * wd n B ≤ B := by
 unfold wd
 split
 ·omega
 ·rename_i h
  have hq : 0 < B / n := Nat.div_pos (by omega) hn
  have h1 : need (B / n) - 1 ≤ B / n := by
   have := (zc8 (B / n) (B / n) (Nat.lt_of_le_of_lt (Nat.div_le_self _ _) (by omega))).2 Nat.lt_two_pow_self
   omega
  exact Nat.le_trans (Nat.mul_le_mul_left n h1) (Nat.mul_div_le B n)
end Go.Proofs.YtgpbpgpolpakjaaGreatDoor
set_option maxRecDepth 100000
namespace Go.Proofs.YtgpbpgpolpakjaaGreatDoor
open Go.RowKit Go.Shelf L
def ptrs (cs : Array Value) : Prop := ∀ (i : Nat) (u : Value), cs[i]? = some u → ∃ p, u = .pointer p
def zoa (xs : List Value) : Prop := ∀ x ∈ xs, ∃ k i, x = Value.int k i
theorem zf5 (l : List Nat) : zoa (u64s l) := fun x hx => by
 obtain ⟨y, _, rfl⟩ := List.mem_map.1 hx
 exact ⟨_, _, rfl⟩
theorem zd3 (l : List Nat) : zoa (zz l) := fun x hx => by
 obtain ⟨y, _, rfl⟩ := List.mem_map.1 hx
 exact ⟨_, _, rfl⟩
def Past (w w' : World) (g : Nat) : Prop := ∀ k, k < w.heap.size → k ≠ g → w'.heap[k]? = w.heap[k]?
theorem Past.set (w : World) (g i : Nat) (u : Value) : Past w (w.setCell ⟨g, i, none⟩ u) g := fun k _ hk => Below.heap_setCell w ⟨g, i, none⟩ u k hk
theorem Lst.past {w w' : World} {A : Option Addr} {xs : List Value} {g : Nat} {t : TypeId} {cs : Array Value} (h : Lst w A xs) (hg : za w g t cs) (hp : ptrs cs) (hx : zoa xs) (hk : Past w w' g) : Lst w' A xs := by
 cases xs with
 | nil => exact Lst.nil_ _ _
 | cons x l =>
   refine h.kept (fun ad e hl => hk _ hl (fun e2 => ?_))
   obtain ⟨b, off, e3, hb, hc⟩ := h.lit (by simp)
   rw [e] at e3
   injection e3 with e3
   subst e3
   have h1 := hc 0 x rfl
   obtain ⟨k, i, rfl⟩ := hx x List.mem_cons_self
   obtain rfl : b = g := e2
   rw [hg.cell] at h1
   obtain ⟨p, hp2⟩ := hp _ _ h1
   cases hp2
theorem zo.past {w w' : World} {r : Nat} {A : Option Addr} {c : Nat} {bs : List Bool} {g : Nat} {cs : Array Value} (h : zo w r A c bs) (hg : za w g 65 cs) (hp : ptrs cs) (hk : Past w w' g) : zo w' r A c bs :=
 zo.mk (h.blk.kept (hk _ h.blk.lt (h.blk.ne_ hg (by decide)))) (h.lst.past hg hp (zf5 _) hk) h.small
theorem zab.past {w w' : World} {r gd gx : Nat} {A : Option Addr} {c : Nat} {bs : List Bool} {Ad : Option Addr} {cd : Nat} {A1 : Option Addr} {c1 : Nat} {l1 : List Nat} {A0 : Option Addr} {c0 : Nat} {l0 : List Nat} {g : Nat} {cs : Array Value} (h : zab w r gd gx A c bs Ad cd A1 c1 l1 A0 c0 l0) (hg : za w g 65 cs) (hp : ptrs cs) (hk : Past w w' g) : zab w' r gd gx A c bs Ad cd A1 c1 l1 A0 c0 l0 := by
 obtain ⟨h1, h2, h3, ⟨h4, h5, h6⟩, h7⟩ := h
 exact ⟨h1.kept (hk _ h1.lt (h1.ne_ hg (by decide))), h2.past hg hp (zd3 _) hk, h3.past hg hp (zd3 _) hk, ⟨h4.kept (hk _ h4.lt (h4.ne_ hg (by decide))), h5.past hg hp (zf5 _) hk, h6.past hg hp hk⟩, h7⟩
theorem za4.past {w w' : World} {s : Nat} {l : List Nat} {B : Nat} {g : Nat} {cs : Array Value} (h : za4 w s l B) (hg : za w g 65 cs) (hp : ptrs cs) (hk : Past w w' g) : za4 w' s l B := by
 obtain ⟨gl, Al, cl, gc, gd, gx, A, c, Ad, cd, A1, c1, l1, A0, c0, l0, h1, h2, h3⟩ := h
 exact ⟨gl, Al, cl, gc, gd, gx, A, c, Ad, cd, A1, c1, l1, A0, c0, l0, h1.kept (hk _ h1.lt (h1.ne_ hg (by decide))), h2.past hg hp hk, h3.past hg hp hk⟩
theorem zcc.past {w w' : World} {s : Nat} {bs : List Bool} {g : Nat} {cs : Array Value} (h : zcc w s bs) (hg : za w g 65 cs) (hp : ptrs cs) (hk : Past w w' g) : zcc w' s bs := by
 obtain ⟨gx, gt, gl, gc, gd, A, c, hh, Ad, cd, A1, c1, l1, A0, c0, l0, h1, ⟨t1, t2, t3, t4⟩, h3⟩ := h
 exact ⟨gx, gt, gl, gc, gd, A, c, hh, Ad, cd, A1, c1, l1, A0, c0, l0, h1.kept (hk _ h1.lt (h1.ne_ hg (by decide))), ⟨t1.kept (hk _ t1.lt (t1.ne_ hg (by decide))), t2.kept (hk _ t2.lt (t2.ne_ hg (by decide))), t3.past hg hp hk, t4⟩, h3.past hg hp hk⟩
theorem zgw (a b c : Option Addr) : ptrs #[.pointer a, .pointer b, .pointer c] := fun i u h => by
 match i with
 | 0 => exact ⟨a, by simpa using h.symm⟩
 | 1 => exact ⟨b, by simpa using h.symm⟩
 | 2 => exact ⟨c, by simpa using h.symm⟩
 | i + 3 => simp at h
theorem zba {W : World} {g : Nat} {t : TypeId} {x y z : Value} (h : za W g t #[x, y, z]) (a b c : Value) : za (((W.setCell ⟨g, 0, none⟩ a).setCell ⟨g, 1, none⟩ b).setCell ⟨g, 2, none⟩ c) g t #[a, b, c] := ((h.put 0 a).put 1 b).put 2 c
theorem zat {B : Nat} {w W : World} {g : Nat} (h : Below B w W) (hg : B ≤ g) (a b c : Value) : Below B w (((W.setCell ⟨g, 0, none⟩ a).setCell ⟨g, 1, none⟩ b).setCell ⟨g, 2, none⟩ c) := ((h.setCell (p := ⟨g, 0, none⟩) hg a).setCell (p := ⟨g, 1, none⟩) hg b).setCell (p := ⟨g, 2, none⟩) hg c
theorem Past.set3 (W : World) (g : Nat) (a b c : Value) : Past W (((W.setCell ⟨g, 0, none⟩ a).setCell ⟨g, 1, none⟩ b).setCell ⟨g, 2, none⟩ c) g := fun k _ hk => by
 rw [Below.heap_setCell _ ⟨g, 2, none⟩ c k hk, Below.heap_setCell _ ⟨g, 1, none⟩ b k hk, Below.heap_setCell _ ⟨g, 0, none⟩ a k hk]
theorem zw {P : Program} {fn : Func} {p u : Tmp} {ty : TypeId} (h : fn.results = #[.cell p ty, .tmp u]) (tmps : Array Value) (w : World) (g : Nat) (t : TypeId) (cs : Array Value)
  (hp : tmps.getD p undef = .pointer (some ⟨g, 0, none⟩)) (hg : za w g t cs)
  (hu : ∃ fs, P.underlying ty = some (.struct fs)) (hi : (P.info? ty).map (·.size) = some cs.size) :
  (results fn tmps).run P w = .ok (.tuple #[.agg cs, tmps.getD u undef]) w := by
 obtain ⟨fs, hu⟩ := hu
 rw [results_cell_tmp h, hp]
 simp [asAddr, Result.andThen, run_loadVar_row w g t ty cs _ (.struct fs) hg hu rfl hi]
theorem zd0 : ∃ fs, Tryz.prog.underlying 65 = some (.struct fs) := ⟨_, by rfl⟩
theorem zem : (Tryz.prog.info? 65).map (·.size) = some 3 := by rfl
theorem zpg (s : ByteArray) (w : World) (hs : 8 ≤ s.size) :
  Calls Tryz.prog 90 #[.string s] w fun e w' => e = .returned (.int .u64 (valL s.data.toList : Nat)) ∧ w = w' := by
 rw [← ztn]
 go_enter Tryz.func90, Tryz.ntmps90
 go_wp2_with fail
 go_loop [3, 5] (fun v i => ∃ k : Nat, k ≤ 8 ∧ i = .int .i64 k ∧ v = .int .u64 (leTo s k : Nat)) (fun _ i => 8 - (intOf i).toNat)
 case atStart => exact ⟨0, by omega, rfl, by simp [leTo, nats, nest]⟩
 case round =>
  obtain ⟨k, hk, rfl, rfl⟩ := hrel
  rcases Nat.lt_or_ge k 8 with hlt | hge
  ·have hsz : k < s.size := by omega
   have H := hid (zkd s k hsz hlt)
   have hb : (s[k].toNat : Int) < 256 := by have := UInt8.toNat_lt s[k]; omega
   have hl64 : leTo s k < 18446744073709551616 := Nat.lt_of_lt_of_le (zlg s k) (zcu (by omega))
   go_wp2_with fail
   go_round
   case rel =>
    refine ⟨k + 1, by omega, by go_num, ?_⟩
    rw [zgb _ _ _ hl64, H.out]
   case measure => simp [intOf]; omega
  ·obtain rfl : k = 8 := by omega
   go_wp2_with fail
   go_ret
   exact ⟨rfl, rfl⟩
def zmr (l : List UInt8) (w : World) (e : Ending) (w' : World) : Prop :=
 Below w.heap.size w w' ∧ ((∃ q x y m B R Ax cx, e = .returned (.tuple #[.agg #[.pointer (some ⟨q, 0, none⟩), .pointer (some ⟨x, 0, none⟩), .pointer (some ⟨y, 0, none⟩)], .int .i64 0]) ∧ za4 w' q m B ∧ Few m B ∧ zo w' x Ax cx R ∧ zcc w' y R ∧ zaw l m B R) ∨
  ((∃ a b c : Option Addr, e = .returned (.tuple #[.agg #[.pointer a, .pointer b, .pointer c], .int .i64 3])) ∧ ∀ m B R, ¬ zaw l m B R))
theorem zt1 (t : ByteArray) (w : World) (hT : Tab w) (hs : t.size ≤ 100000) (hv : valL t.data.toList ≤ t.size - 8 → valL t.data.toList ≤ 1450) :
  Calls Tryz.prog 34 #[.string t] w (zmr t.data.toList w) := by
 have hsz : t.data.toList.length = t.size := by rw [Array.length_toList]; rfl
 have HN := hid (fun W (h : 8 ≤ t.size) => zpg t W h)
 have HF := hid (show ∀ e w', Below w.heap.size w w' → (∃ a b c : Option Addr, e = .returned (.tuple #[.agg #[.pointer a, .pointer b, .pointer c], .int .i64 3])) → (∀ m B R, ¬ zaw t.data.toList m B R) → zmr t.data.toList w e w' from fun e w' h1 h2 h3 => ⟨h1, .inr ⟨h2, h3⟩⟩)
 have HP := hid (show ∀ w' q x y m B R Ax cx, Below w.heap.size w w' → za4 w' q m B → Few m B → zo w' x Ax cx R → zcc w' y R → zaw t.data.toList m B R → zmr t.data.toList w (.returned (.tuple #[.agg #[.pointer (some ⟨q, 0, none⟩), .pointer (some ⟨x, 0, none⟩), .pointer (some ⟨y, 0, none⟩)], .int .i64 0])) w' from fun w' q x y m B R Ax cx h1 h2 h3 h4 h5 h6 => ⟨h1, .inl ⟨q, x, y, m, B, R, Ax, cx, rfl, h2, h3, h4, h5, h6⟩⟩)
 by_cases h8 : t.size < 8
 ·have h8I : (t.size : Int) < 8 := by omega
  have HB := hid (show ∀ m B R, ¬ zaw t.data.toList m B R from fun m B R h => by have := h.1; omega)
  clear hsz hv
  go_enter Tryz.func34, Tryz.ntmps34
  go_wp2_with fail
  (try simp only [Exit.inBlock, Exit.then])
  refine bodyPost_ret (zw rfl _ _ w.heap.size _ #[.pointer none, .pointer none, .pointer none] rfl ((za.new _ _ _).alloc _) zd0 zem) rfl ?_
  exact HF.out _ _ (((Below.refl _ _).alloc (Nat.le_refl _) _).alloc (by simp) _) ⟨_, _, _, rfl⟩ HB.out
 ·have h8I : ¬ (t.size : Int) < 8 := by omega
  obtain ⟨n, hn⟩ : ∃ n, n = valL t.data.toList := ⟨_, rfl⟩
  have hn64 : n < 18446744073709551616 := by rw [hn]; exact L.zlk _
  have HN2 := hid (show ∀ W, Calls Tryz.prog 90 #[.string t] W fun e w' => e = .returned (.int .u64 (n : Nat)) ∧ W = w' from fun W => by rw [hn]; exact HN.out W (by omega))
  have hw1 : IntKind.u64.wrap ((t.size : Int) - 8) = (t.size : Int) - 8 := by rw [IntKind.wrap_u64]; omega
  by_cases hb : t.size - 8 < n
  ·have hbI : (t.size : Int) - 8 < (n : Int) := by omega
   have HB := hid (show ∀ m B R, ¬ zaw t.data.toList m B R from fun m B R h => by have := h.2.1; omega)
   clear hsz hv HN hn
   go_enter Tryz.func34, Tryz.ntmps34
   go_wp2_with fail
   refine (HN2.out _).mono ?_
   rintro e w' ⟨rfl, rfl⟩
   go_wp2_with fail
   (try simp only [Exit.inBlock, Exit.then])
   refine bodyPost_ret (zw rfl _ _ w.heap.size _ #[.pointer none, .pointer none, .pointer none] rfl ((za.new _ _ _).alloc _) zd0 zem) rfl ?_
   exact HF.out _ _ (((Below.refl _ _).alloc (Nat.le_refl _) _).alloc (by simp) _) ⟨_, _, _, rfl⟩ HB.out
  ·have hbI : ¬ (t.size : Int) - 8 < (n : Int) := by omega
   have hn11 : n ≤ 1450 := by rw [hn]; exact hv (by omega)
   obtain ⟨a, ha⟩ : ∃ a, a = t.extract 8 (8 + n) := ⟨_, rfl⟩
   obtain ⟨b, hbb⟩ : ∃ b, b = t.extract (8 + n) t.size := ⟨_, rfl⟩
   have has : a.size = n := by rw [ha, ByteArray.size_extract]; omega
   have hbs : b.size ≤ 100000 := by rw [hbb, ByteArray.size_extract]; omega
   have hal : a.data.toList = (t.data.toList.drop 8).take n := by
    rw [ha, ByteArray.data_extract, Array.toList_extract, List.extract_eq_take_drop, show 8 + n - 8 = n from by omega]
   have hbl : b.data.toList = t.data.toList.drop (8 + n) := by
    rw [hbb, ByteArray.data_extract, Array.toList_extract, List.extract_eq_take_drop]
    exact List.take_of_length_le (by rw [List.length_drop, hsz]; exact Nat.le_refl _)
   have HG := hid (show ∀ m B R, zaw t.data.toList m B R ↔ (zcj a.data.toList ∧ zcd (zcb a.data.toList (valL a.data.toList)) m B ∧ zcj b.data.toList ∧ R = zcb b.data.toList (valL b.data.toList) ∧ bal (zb R) R.length = true) from fun m B R => by
    unfold zaw
    rw [← hn, hsz, ← hal, ← hbl]
    constructor
    ·rintro ⟨_, _, h⟩; exact h
    ·intro h; exact ⟨by omega, by omega, h⟩)
   have HFO := hid (fun W hW => z6z a W (by omega) hW)
   have HBO := hid (fun W => z0g b W (by omega))
   have r1 : IntKind.i64.wrap (n : Int) = (n : Int) := by rw [IntKind.wrap_i64]; omega
   have r2 : IntKind.i64.wrap (8 + (n : Int)) = 8 + (n : Int) := by rw [IntKind.wrap_i64]; omega
   have r3 : (0 : Int) ≤ 8 + (n : Int) := by omega
   have r4 : (8 + (n : Int)).toNat = 8 + n := by omega
   have r5 : 8 + (n : Int) ≤ (t.size : Int) := by omega
   have r6 : (8 : Int) ≤ 8 + (n : Int) := by omega
   clear hn hal hbl HN hv hsz
   generalize a.data.toList = al at *
   generalize b.data.toList = bl at *
   go_enter Tryz.func34, Tryz.ntmps34
   go_wp2_with fail
   refine (HN2.out _).mono ?_
   rintro e w' ⟨rfl, rfl⟩
   go_wp2_with fail
   refine (HN2.out _).mono ?_
   rintro e w' ⟨rfl, rfl⟩
   have hR0 : za ((w.alloc (.cells #[.pointer none, .pointer none, .pointer none] 65)).alloc (.cells #[.pointer none, .pointer none, .pointer none] 65)) w.heap.size 65 #[.pointer none, .pointer none, .pointer none] := (za.new _ _ _).alloc _
   have hX0 : za ((w.alloc (.cells #[.pointer none, .pointer none, .pointer none] 65)).alloc (.cells #[.pointer none, .pointer none, .pointer none] 65)) (w.heap.size + 1) 65 #[.pointer none, .pointer none, .pointer none] := by
    have := za.new (w.alloc (.cells #[.pointer none, .pointer none, .pointer none] 65)) 65 #[.pointer none, .pointer none, .pointer none]
    simpa using this
   have hB0 : Below w.heap.size w ((w.alloc (.cells #[.pointer none, .pointer none, .pointer none] 65)).alloc (.cells #[.pointer none, .pointer none, .pointer none] 65)) := ((Below.refl _ _).alloc (Nat.le_refl _) _).alloc (by simp) _
   go_wp2_with fail
   rw [← ha]
   generalize ((w.alloc (.cells #[.pointer none, .pointer none, .pointer none] 65)).alloc (.cells #[.pointer none, .pointer none, .pointer none] 65)) = W0 at *
   have hz0 := hB0.size
   refine (HFO.out _ (hT.below hB0)).mono ?_
   rintro e w1 ⟨hB1, ⟨q, m, B, rfl, hq, hf, hg1, hg2⟩ | ⟨rfl, hbad⟩⟩
   case inr =>
    have HB := hid (show ∀ m B R, ¬ zaw t.data.toList m B R from fun m B R h => by have h := (HG.out m B R).1 h; exact hbad h.1 m B h.2.1)
    have hX1 := hX0.below hB1
    have hR1 := hR0.below hB1
    have x0 := hX1.cell 0
    have x1 := hX1.cell 1
    have x2 := hX1.cell 2
    have fx := hX1.frozen 0
    have y0 := hR1.cell 0
    have y1 := hR1.cell 1
    have y2 := hR1.cell 2
    have fy0 := hR1.frozen 0
    have fy1 := hR1.frozen 1
    have fy2 := hR1.frozen 2
    have hB01 := hB0.trans (hB1.mono hz0)
    go_wp2_with fail
    (try simp only [Exit.inBlock, Exit.then])
    refine bodyPost_ret (zw rfl _ _ w.heap.size _ #[.pointer none, .pointer none, .pointer none] rfl (zba (hR1.far (by simp) _) _ _ _) zd0 zem) rfl ?_
    exact HF.out _ _ (zat (hB01.setCell (by simp) _) (Nat.le_refl _) _ _ _) ⟨_, _, _, rfl⟩ HB.out
   have hX1 := hX0.below hB1
   have hR1 := hR0.below hB1
   have x0 := hX1.cell 0
   have fx := hX1.frozen 0
   have hB01 := hB0.trans (hB1.mono hz0)
   have hX2 : za (w1.setCell ⟨w.heap.size + 1, 0, none⟩ (.pointer (some ⟨q, 0, none⟩))) (w.heap.size + 1) 65 #[.pointer (some ⟨q, 0, none⟩), .pointer none, .pointer none] := hX1.put 0 _
   have hR2 : za (w1.setCell ⟨w.heap.size + 1, 0, none⟩ (.pointer (some ⟨q, 0, none⟩))) w.heap.size 65 #[.pointer none, .pointer none, .pointer none] := hR1.far (by simp) _
   have hq2 := hq.past hX1 (zgw _ _ _) (Past.set w1 (w.heap.size + 1) 0 (.pointer (some ⟨q, 0, none⟩)))
   have hB02 : Below w.heap.size w (w1.setCell ⟨w.heap.size + 1, 0, none⟩ (.pointer (some ⟨q, 0, none⟩))) := hB01.setCell (by simp) _
   have HG2 := hid (show ∀ m' B' R, zaw t.data.toList m' B' R ↔ (m' = m ∧ B' = B ∧ zcj bl ∧ R = zcb bl (valL bl) ∧ bal (zb R) R.length = true) from fun m' B' R => by
    rw [HG.out]
    constructor
    ·rintro ⟨h1, h2, h3, h4, h5⟩
     have := h2.uniq hg2
     exact ⟨this.1, this.2, h3, h4, h5⟩
    ·rintro ⟨rfl, rfl, h3, h4, h5⟩
     exact ⟨hg1, hg2, h3, h4, h5⟩)
   clear HG hg1 hg2 hX0 hR0 HFO
   go_wp2_with fail
   rw [← hbb]
   generalize w1.setCell ⟨w.heap.size + 1, 0, none⟩ (.pointer (some ⟨q, 0, none⟩)) = W2 at *
   have hz2 := hB02.size
   refine (HBO.out W2).mono ?_
   rintro e w3 ⟨hB3, ⟨hgood, x, Ax, cx, rfl, hx⟩ | ⟨hbad, rfl⟩⟩
   case inr =>
    have HB := hid (show ∀ m B R, ¬ zaw t.data.toList m B R from fun m B R h => hbad ((HG2.out m B R).1 h).2.2.1)
    have hX3 := hX2.below hB3
    have hR3 := hR2.below hB3
    have x0 := hX3.cell 0
    have x1 := hX3.cell 1
    have x2 := hX3.cell 2
    have fx := hX3.frozen 1
    have y0 := hR3.cell 0
    have y1 := hR3.cell 1
    have y2 := hR3.cell 2
    have fy0 := hR3.frozen 0
    have fy1 := hR3.frozen 1
    have fy2 := hR3.frozen 2
    have hB03 := hB02.trans (hB3.mono hz2)
    go_wp2_with fail
    (try simp only [Exit.inBlock, Exit.then])
    refine bodyPost_ret (zw rfl _ _ w.heap.size _ #[.pointer (some ⟨q, 0, none⟩), .pointer none, .pointer none] rfl (zba (hR3.far (by simp) _) _ _ _) zd0 zem) rfl ?_
    exact HF.out _ _ (zat (hB03.setCell (by simp) _) (Nat.le_refl _) _ _ _) ⟨_, _, _, rfl⟩ HB.out
   have hX3 := hX2.below hB3
   have hR3 := hR2.below hB3
   have x0 := hX3.cell 0
   have x1 := hX3.cell 1
   have fx := hX3.frozen 1
   have hB03 := hB02.trans (hB3.mono hz2)
   have hq3 := hq2.below hB3
   have hX4 : za (w3.setCell ⟨w.heap.size + 1, 1, none⟩ (.pointer (some ⟨x, 0, none⟩))) (w.heap.size + 1) 65 #[.pointer (some ⟨q, 0, none⟩), .pointer (some ⟨x, 0, none⟩), .pointer none] := hX3.put 1 _
   have hR4 : za (w3.setCell ⟨w.heap.size + 1, 1, none⟩ (.pointer (some ⟨x, 0, none⟩))) w.heap.size 65 #[.pointer none, .pointer none, .pointer none] := hR3.far (by simp) _
   have hq4 := hq3.past hX3 (zgw _ _ _) (Past.set w3 (w.heap.size + 1) 1 (.pointer (some ⟨x, 0, none⟩)))
   have hx4 := hx.past hX3 (zgw _ _ _) (Past.set w3 (w.heap.size + 1) 1 (.pointer (some ⟨x, 0, none⟩)))
   have hB04 : Below w.heap.size w (w3.setCell ⟨w.heap.size + 1, 1, none⟩ (.pointer (some ⟨x, 0, none⟩))) := hB03.setCell (by simp) _
   obtain ⟨R, hR⟩ : ∃ R, R = zcb bl (valL bl) := ⟨_, rfl⟩
   rw [← hR] at hx4 HG2
   have z1 := hX4.cell 1
   clear hX1 hR1 hX2 hR2 hq hq2 hq3 hx HBO
   go_wp2_with fail
   generalize w3.setCell ⟨w.heap.size + 1, 1, none⟩ (.pointer (some ⟨x, 0, none⟩)) = W4 at *
   have hz4 := hB04.size
   cases hbal : bal (zb R) R.length with
   | false =>
     have HB := hid (show ∀ m B R, ¬ zaw t.data.toList m B R from fun m B R' h => by
      have h := ((HG2.out m B R').1 h).2.2.2
      rw [h.1, hbal] at h
      cases h.2)
     refine (zu8 x Ax cx R W4 hx4 hbal).mono ?_
     rintro e w5 ⟨rfl, hB5⟩
     have hX5 := hX4.below hB5
     have hR5 := hR4.below hB5
     have x0 := hX5.cell 0
     have x1 := hX5.cell 1
     have x2 := hX5.cell 2
     have fx := hX5.frozen 2
     have y0 := hR5.cell 0
     have y1 := hR5.cell 1
     have y2 := hR5.cell 2
     have fy0 := hR5.frozen 0
     have fy1 := hR5.frozen 1
     have fy2 := hR5.frozen 2
     have hB05 := hB04.trans (hB5.mono hz4)
     go_wp2_with fail
     (try simp only [Exit.inBlock, Exit.then])
     refine bodyPost_ret (zw rfl _ _ w.heap.size _ #[.pointer (some ⟨q, 0, none⟩), .pointer (some ⟨x, 0, none⟩), .pointer none] rfl (zba (hR5.far (by simp) _) _ _ _) zd0 zem) rfl ?_
     exact HF.out _ _ (zat (hB05.setCell (by simp) _) (Nat.le_refl _) _ _ _) ⟨_, _, _, rfl⟩ HB.out
   | true =>
     have hgg := (HG2.out m B R).2 ⟨rfl, rfl, hgood, rfl, hbal⟩
     refine (zl8 x Ax cx R W4 hx4 hbal).mono ?_
     rintro e w5 ⟨y, rfl, hy, hB5⟩
     have hX5 := hX4.below hB5
     have hR5 := hR4.below hB5
     have x0 := hX5.cell 0
     have x1 := hX5.cell 1
     have x2 := hX5.cell 2
     have fx := hX5.frozen 2
     have y0 := hR5.cell 0
     have y1 := hR5.cell 1
     have y2 := hR5.cell 2
     have fy0 := hR5.frozen 0
     have fy1 := hR5.frozen 1
     have fy2 := hR5.frozen 2
     have hB05 := hB04.trans (hB5.mono hz4)
     have hq5 := hq4.below hB5
     have hx5 := hx4.below hB5
     have hP6 := Past.set w5 (w.heap.size + 1) 2 (.pointer (some ⟨y, 0, none⟩))
     have hq6 := hq5.past hX5 (zgw _ _ _) hP6
     have hx6 := hx5.past hX5 (zgw _ _ _) hP6
     have hy6 := hy.past hX5 (zgw _ _ _) hP6
     have hR6 : za (w5.setCell ⟨w.heap.size + 1, 2, none⟩ (.pointer (some ⟨y, 0, none⟩))) w.heap.size 65 #[.pointer none, .pointer none, .pointer none] := hR5.far (by simp) _
     have hB06 : Below w.heap.size w (w5.setCell ⟨w.heap.size + 1, 2, none⟩ (.pointer (some ⟨y, 0, none⟩))) := hB05.setCell (by simp) _
     go_wp2_with fail
     (try simp only [Exit.inBlock, Exit.then])
     refine bodyPost_ret (zw rfl _ _ w.heap.size _ #[.pointer (some ⟨q, 0, none⟩), .pointer (some ⟨x, 0, none⟩), .pointer (some ⟨y, 0, none⟩)] rfl (zba hR6 _ _ _) zd0 zem) rfl ?_
     have hP7 := Past.set3 (w5.setCell ⟨w.heap.size + 1, 2, none⟩ (.pointer (some ⟨y, 0, none⟩))) w.heap.size (.pointer (some ⟨q, 0, none⟩)) (.pointer (some ⟨x, 0, none⟩)) (.pointer (some ⟨y, 0, none⟩))
     exact HP.out _ q x y m B R Ax cx (zat hB06 (Nat.le_refl _) _ _ _) (hq6.past hR6 (zgw _ _ _) hP7) hf (hx6.past hR6 (zgw _ _ _) hP7) (hy6.past hR6 (zgw _ _ _) hP7) hgg
def zms (m : List Nat) (B : Nat) (R : List Bool) (P : List Nat) (Bd : Nat) (Rp : List Bool) (w : World) (e : Ending) (w' : World) : Prop :=
 ∃ ok, e = .returned (.bool ok) ∧ Below w.heap.size w w' ∧ (ok = true ↔ (m = P ∧ B = Bd ∧ R = Rp))
theorem zqq {α : Type} {l m : List α} (h : l.length = m.length) (ha : ∀ j (h1 : j < l.length) (h2 : j < m.length), l[j] = m[j]) : l = m := List.ext_getElem h (fun i h1 h2 => ha i h1 h2)
theorem zt2 (q x y : Nat) (m : List Nat) (B : Nat) (R : List Bool) (Ax : Option Addr) (cx : Nat) (s : ByteArray) (w : World) (hq : za4 w q m B) (hf : Few m B) (hr : zas m B) (hx : zo w x Ax cx R) (hT : Tab w) (hs : s.size ≤ 65536) :
  Calls Tryz.prog 35 #[.agg #[.pointer (some ⟨q, 0, none⟩), .pointer (some ⟨x, 0, none⟩), .pointer (some ⟨y, 0, none⟩)], .string s] w (zms m B R (places (nb s)) (bndN (nb s)) (zl (nb s)) w) := by
 have HP := hid (fun W => zl5 s W (by omega))
 have HQ := hid (fun W => zl6 s W (by omega))
 have HBD := hid (fun A n c W => zqh A n c s W)
 have HBE := hid (show (if (places (nb s)).length = 0 then 1 else s.size) = bndN (nb s) by unfold bndN; rw [zf])
 have HL := hid (fun W hW => zn0 q m B W hW)
 have HC := hid (fun W hW => ztf q m B W hW)
 have HRL := hid (fun W (hW : zo W x Ax cx R) => zar x (R.length : Nat) W hW.cells.2)
 have HF := hid (show ∀ e w', Below w.heap.size w w' → e = .returned (.bool false) → ¬ (m = places (nb s) ∧ B = bndN (nb s) ∧ R = zl (nb s)) → zms m B R (places (nb s)) (bndN (nb s)) (zl (nb s)) w e w' from fun e w' h1 h2 h3 => ⟨false, h2, h1, ⟨fun h => (by cases h), fun h => absurd h h3⟩⟩)
 have HY := hid (show ∀ e w', Below w.heap.size w w' → e = .returned (.bool true) → (m = places (nb s) ∧ B = bndN (nb s) ∧ R = zl (nb s)) → zms m B R (places (nb s)) (bndN (nb s)) (zl (nb s)) w e w' from fun e w' h1 h2 h3 => ⟨true, h2, h1, ⟨fun _ => h3, fun _ => rfl⟩⟩)
 have HGI := hid (fun i (hi : i < m.length) W hW hTW => zws q m B i W hW hTW hr hf hi)
 have HGR := hid (fun (i : Nat) W hW => z5w x Ax cx R (i : Nat) W hW)
 have hm1 := hf.1
 have hRs := hx.small
 clear hs hr hf
 generalize places (nb s) = P at *
 generalize zl (nb s) = Q at *
 generalize bndN (nb s) = D at *
 have hB0 : Below w.heap.size w (w.alloc (.cells #[.pointer (some ⟨q, 0, none⟩), .pointer (some ⟨x, 0, none⟩), .pointer (some ⟨y, 0, none⟩)] 65)) := (Below.refl _ _).alloc (Nat.le_refl _) _
 have hX0 : za (w.alloc (.cells #[.pointer (some ⟨q, 0, none⟩), .pointer (some ⟨x, 0, none⟩), .pointer (some ⟨y, 0, none⟩)] 65)) w.heap.size 65 #[.pointer (some ⟨q, 0, none⟩), .pointer (some ⟨x, 0, none⟩), .pointer (some ⟨y, 0, none⟩)] := za.new _ _ _
 go_enter Tryz.func35, Tryz.ntmps35
 go_wp2_with fail
 generalize (w.alloc (.cells #[.pointer (some ⟨q, 0, none⟩), .pointer (some ⟨x, 0, none⟩), .pointer (some ⟨y, 0, none⟩)] 65)) = W0 at *
 refine (HP.out _).mono ?_
 rintro e w1 ⟨A1, c1, rfl, hl1, hB1⟩
 have hL1 := zbw hl1
 have hB01 := hB0.trans (hB1.mono hB0.size)
 clear hl1
 go_wp2_with fail
 refine (HQ.out _).mono ?_
 rintro e w2 ⟨A2, c2, rfl, hl2, hB2⟩
 have hL2 := zbw hl2
 have hL12 := hL1.below hB2
 have hB02 := hB01.trans (hB2.mono hB01.size)
 have hX2 := (hX0.below hB1).below hB2
 have x0 := hX2.cell 0
 have x1 := hX2.cell 1
 have hq2 := hq.below hB02
 have hx2 := hx.below hB02
 have hT2 := hT.below hB02
 have hz2 := hB02.size
 clear hl2 hB1 hB2 hB01 hX0 hB0 hL1
 go_wp2_with fail
 refine (HL.out _ hq2).mono ?_
 rintro e w' ⟨rfl, rfl⟩
 by_cases h1 : m.length = P.length
 case neg =>
  have hb1 : ((m.length : Int) != (P.length : Int)) = true := by rw [bne_iff_ne]; omega
  have hb2 : ¬ ((m.length : Int) = (P.length : Int)) := by omega
  have hb3 : (m.length == P.length) = false := by rw [beq_eq_false_iff_ne]; omega
  go_wp2_with fail
  go_ret
  exact HF.out _ _ hB02 rfl (fun h => h1 (by rw [h.1]))
 have h1I : (m.length : Int) = (P.length : Int) := by omega
 rw [h1I]
 go_wp2_with fail
 refine (HC.out _ hq2).mono ?_
 rintro e w' ⟨rfl, rfl⟩
 go_wp2_with fail
 refine (HBD.out _ _ _ _).mono ?_
 rintro e w' ⟨rfl, rfl⟩
 rw [HBE.out]
 by_cases h2 : B = D
 case neg =>
  have hb1 : ((B : Int) != (D : Int)) = true := by rw [bne_iff_ne]; omega
  have hb2 : ¬ ((B : Int) = (D : Int)) := by omega
  go_wp2_with fail
  go_ret
  exact HF.out _ _ hB02 rfl (fun h => h2 h.2.1)
 subst h2
 go_wp2_with fail
 refine (HRL.out _ hx2).mono ?_
 rintro e w' ⟨rfl, rfl⟩
 by_cases h3 : R.length = Q.length
 case neg =>
  have hb1 : ((R.length : Int) != (Q.length : Int)) = true := by rw [bne_iff_ne]; omega
  have hb2 : ¬ ((R.length : Int) = (Q.length : Int)) := by omega
  go_wp2_with fail
  go_ret
  exact HF.out _ _ hB02 rfl (fun h => h3 (by rw [h.2.2]))
 have h3I : (R.length : Int) = (Q.length : Int) := by omega
 rw [h3I]
 go_wp2_with fail
 go_loopw [42] (fun iv wr => ∃ i : Nat, i ≤ P.length ∧ iv = .int .i64 (i : Nat) ∧ Below w2.heap.size w2 wr ∧ Hid (∀ j (h1 : j < m.length) (h2 : j < P.length), j < i → m[j] = P[j])) (fun iv _ => P.length - (intOf iv).toNat)
 case atStart => exact ⟨0, by omega, rfl, Below.refl _ _, hid (fun j _ _ h => by omega)⟩
 case round =>
  obtain ⟨i, hi, rfl, hB, hI⟩ := hrel
  have hq3 := hq2.below hB
  have hT3 := hT2.below hB
  have hBw := hB02.trans (hB.mono hz2)
  have hX3 := hX2.below hB
  have x0 := hX3.cell 0
  have x1 := hX3.cell 1
  rcases Nat.lt_or_ge i P.length with hlt | hge
  ·have him : i < m.length := by omega
   have HG1 := hid (HGI.out i him)
   obtain ⟨ab, ao, rfl, had, hcl⟩ := hL12.lit (by rw [zc6]; omega)
   have hcell := (hB.cell (p := ⟨ab, ao + i, none⟩) had).trans (hcl i (.int .i64 (P[i] : Nat)) (by unfold zz; rw [List.getElem?_map, List.getElem?_eq_getElem hlt]; rfl))
   have hlI : (i : Int) < (P.length : Int) := by omega
   have h0I : (0 : Int) ≤ (i : Int) := by omega
   by_cases hv : m[i] = P[i]
   ·have hI2 := hid (show ∀ j (h1 : j < m.length) (h2 : j < P.length), j < i + 1 → m[j] = P[j] from fun j h1 h2 h => by
     rcases Nat.lt_or_ge j i with h' | h'
     ·exact hI.out j h1 h2 h'
     ·obtain rfl : j = i := by omega
      exact hv)
    rw [hv] at HG1
    clear hI
    generalize P[i] = v at *
    clear hv
    go_wp2_with fail
    refine (HG1.out _ hq3 hT3).mono ?_
    rintro e w4 ⟨rfl, hB4⟩
    have hBx := hB.trans (hB4.mono hB.size)
    go_wp2_with fail
    go_roundw
    case rel => exact ⟨i + 1, by omega, by go_num, hBx, hI2⟩
    case measure => simp [intOf]; omega
   ·have hb1 : (((m[i] : Nat) : Int) != ((P[i] : Nat) : Int)) = true := by rw [bne_iff_ne]; omega
    have hb2 : ¬ (((m[i] : Nat) : Int) = ((P[i] : Nat) : Int)) := by omega
    have HN := hid (show ¬ (m = P ∧ B = B ∧ R = Q) from fun h => hv (by obtain ⟨rfl, _, _⟩ := h; rfl))
    generalize P[i] = v at *
    generalize m[i] = u at *
    clear hv
    go_wp2_with fail
    refine (HG1.out _ hq3 hT3).mono ?_
    rintro e w4 ⟨rfl, hB4⟩
    go_wp2_with fail
    go_ret
    exact HF.out _ _ (hBw.trans (hB4.mono hBw.size)) rfl HN.out
  ·obtain rfl : i = P.length := by omega
   have hlI : ¬ ((P.length : Int) < (P.length : Int)) := by omega
   have hmP := hid (show m = P from zqq h1 (fun j h1 h2 => hI.out j h1 h2 h2))
   have hx3 := hx2.below hB
   have hL3 := hL2.below hB
   clear hI HGI
   go_wp2_with fail
   go_loop [60] (fun iv => ∃ i : Nat, i ≤ Q.length ∧ iv = .int .i64 (i : Nat) ∧ Hid (∀ j (h1 : j < R.length) (h2 : j < Q.length), j < i → R[j] = Q[j])) (fun iv => Q.length - (intOf iv).toNat)
   case atStart => exact ⟨0, by omega, rfl, hid (fun j _ _ h => by omega)⟩
   case round =>
    obtain ⟨i, hi, rfl, hI⟩ := hrel
    rcases Nat.lt_or_ge i Q.length with hlt | hge
    ·have him : i < R.length := by omega
     have HG1 := hid (fun W (hW : zo W x Ax cx R) => (show Calls Tryz.prog 96 #[.pointer (some ⟨x, 0, none⟩), .int .i64 (i : Nat)] W fun e w' => e = .returned (.bool R[i]) ∧ W = w' from by
      have := HGR.out i W hW
      rwa [zx0, show zb R i = R[i] from by unfold zb; rw [List.getElem?_eq_getElem him]; rfl] at this))
     obtain ⟨ab, ao, rfl, had, hcl⟩ := hL3.lit (by rw [zcx]; omega)
     have hcell := hcl i (.bool Q[i]) (by unfold bools; rw [List.getElem?_map, List.getElem?_eq_getElem hlt]; rfl)
     have hlI : (i : Int) < (Q.length : Int) := by omega
     have h0I : (0 : Int) ≤ (i : Int) := by omega
     by_cases hv : R[i] = Q[i]
     ·have hI2 := hid (show ∀ j (h1 : j < R.length) (h2 : j < Q.length), j < i + 1 → R[j] = Q[j] from fun j h1 h2 h => by
       rcases Nat.lt_or_ge j i with h' | h'
       ·exact hI.out j h1 h2 h'
       ·obtain rfl : j = i := by omega
        exact hv)
      rw [hv] at HG1
      clear hI
      generalize Q[i] = v at *
      clear hv
      go_wp2_with fail
      refine (HG1.out _ hx3).mono ?_
      rintro e w' ⟨rfl, rfl⟩
      go_wp2_with fail
      go_round
      case rel => exact ⟨i + 1, by omega, by go_num, hI2⟩
      case measure => simp [intOf]; omega
     ·have HN := hid (show ¬ (m = P ∧ B = B ∧ R = Q) from fun h => hv (by obtain ⟨_, _, rfl⟩ := h; rfl))
      generalize Q[i] = v at *
      generalize R[i] = u at *
      cases u <;> cases v
      ·exact absurd rfl hv
      ·clear hv
       go_wp2_with fail
       refine (HG1.out _ hx3).mono ?_
       rintro e w' ⟨rfl, rfl⟩
       go_wp2_with fail
       go_ret
       exact HF.out _ _ hBw rfl HN.out
      ·clear hv
       go_wp2_with fail
       refine (HG1.out _ hx3).mono ?_
       rintro e w' ⟨rfl, rfl⟩
       go_wp2_with fail
       go_ret
       exact HF.out _ _ hBw rfl HN.out
      ·exact absurd rfl hv
    ·obtain rfl : i = Q.length := by omega
     have hlI : ¬ ((Q.length : Int) < (Q.length : Int)) := by omega
     have hRQ := hid (show R = Q from zqq h3 (fun j h1 h2 => hI.out j h1 h2 h2))
     go_wp2_with fail
     go_ret
     exact HY.out _ _ hBw rfl ⟨hmP.out, by trivial, hRQ.out⟩
def zhd (s t : ByteArray) (w : World) (e : Ending) (w' : World) : Prop :=
 Below w.heap.size w w' ∧ ((∃ g, e = .returned (.tuple #[.pointer (some ⟨g, 0, none⟩), .int .i64 0]) ∧ zbo w' g s ∧ t = idxS (nb s)) ∨
  (e = .returned (.tuple #[.pointer none, .int .i64 3]) ∧ ∀ m B R, ¬ zaw t.data.toList m B R) ∨
  (e = .returned (.tuple #[.pointer none, .int .i64 12]) ∧ (∃ m B R, zaw t.data.toList m B R) ∧ t ≠ idxS (nb s)))
theorem zt3 (s t : ByteArray) (w : World) (h : zd2 (nb s) = 0) (hm : (places (nb s)).length ≤ 10000) (hT : Tab w) (hs : t.size ≤ 100000) (hv : valL t.data.toList ≤ t.size - 8 → valL t.data.toList ≤ 1450) :
  Calls Tryz.prog 10 #[.string s, .string t] w (zhd s t w) := by
 obtain ⟨ht, hl⟩ := zks h
 have hsz : s.size ≤ 65536 := by rw [zf] at hl; exact hl
 have HK := hid (fun W => ztl s W)
 rw [h] at HK
 have HR := hid (fun W hW => zt1 t W hW hs hv)
 have HF := hid (fun q x y m B R Ax cx W hq hf hr hx hTW => zt2 q x y m B R Ax cx s W hq hf hr hx hTW hsz)
 have HI := hid (fun m B R (hg : zaw t.data.toList m B R) => z7a ht hl hm hg)
 have HMK := hid (show ∀ w' g q x t Ax cx, za w' g 67 #[.pointer (some ⟨q, 0, none⟩), .pointer (some ⟨x, 0, none⟩), .pointer (some ⟨t, 0, none⟩), .string s] → za4 w' q (places (nb s)) (bndN (nb s)) → zo w' x Ax cx (zl (nb s)) → zcc w' t (zl (nb s)) → zbo w' g s from fun w' g q x t Ax cx a b c d => ⟨q, x, t, Ax, cx, a, b, c, d⟩)
 have HP1 := hid (show ∀ w' g, Below w.heap.size w w' → zbo w' g s → t = idxS (nb s) → zhd s t w (.returned (.tuple #[.pointer (some ⟨g, 0, none⟩), .int .i64 0])) w' from fun w' g h1 h2 h3 => ⟨h1, .inl ⟨g, rfl, h2, h3⟩⟩)
 have HP2 := hid (show ∀ w', Below w.heap.size w w' → (∀ m B R, ¬ zaw t.data.toList m B R) → zhd s t w (.returned (.tuple #[.pointer none, .int .i64 3])) w' from fun w' h1 h2 => ⟨h1, .inr (.inl ⟨rfl, h2⟩)⟩)
 have HP3 := hid (show ∀ w', Below w.heap.size w w' → (∃ m B R, zaw t.data.toList m B R) → t ≠ idxS (nb s) → zhd s t w (.returned (.tuple #[.pointer none, .int .i64 12])) w' from fun w' h1 h2 h3 => ⟨h1, .inr (.inr ⟨rfl, h2, h3⟩)⟩)
 clear h ht hl hm hsz hs hv
 generalize places (nb s) = P at *
 generalize zl (nb s) = Q at *
 generalize bndN (nb s) = D at *
 generalize idxS (nb s) = I at *
 go_enter Tryz.func10, Tryz.ntmps10
 go_wp2_with fail
 refine (HK.out _).mono ?_
 rintro e w1 ⟨rfl, hB1⟩
 have hz1 := hB1.size
 go_wp2_with fail
 refine (HR.out _ (hT.below hB1)).mono ?_
 rintro e w2 ⟨hB2, ⟨q, x, y, m, B, R, Ax, cx, rfl, hq, hf, hx, hy, hg⟩ | ⟨⟨a, b, c, rfl⟩, hbad⟩⟩
 case inr =>
  have hB12 := hB1.trans (hB2.mono hz1)
  go_wp2_with fail
  go_ret2
  exact HP2.out _ (hB12.alloc hB12.size _) hbad
 have hB12 := hB1.trans (hB2.mono hz1)
 have hT2 := hT.below hB12
 have hBa := hB12.alloc hB12.size (.cells #[.pointer (some ⟨q, 0, none⟩), .pointer (some ⟨x, 0, none⟩), .pointer (some ⟨y, 0, none⟩)] 65)
 have hr := hg.2.2.2.1.1
 go_wp2_with fail
 have hX3 := za.new w2 65 #[.pointer (some ⟨q, 0, none⟩), .pointer (some ⟨x, 0, none⟩), .pointer (some ⟨y, 0, none⟩)]
 have hB23 : Below w2.heap.size w2 (w2.alloc (.cells #[.pointer (some ⟨q, 0, none⟩), .pointer (some ⟨x, 0, none⟩), .pointer (some ⟨y, 0, none⟩)] 65)) := (Below.refl _ _).alloc (Nat.le_refl _) _
 generalize (w2.alloc (.cells #[.pointer (some ⟨q, 0, none⟩), .pointer (some ⟨x, 0, none⟩), .pointer (some ⟨y, 0, none⟩)] 65)) = w3 at *
 refine (HF.out q x y m B R Ax cx _ (hq.below hB23) hf hr (hx.below hB23) (hT2.below hB23)).mono ?_
 rintro e w4 ⟨ok, rfl, hB4, hok⟩
 have hB24 := hB23.trans (hB4.mono hB23.size)
 have hB04 := hBa.trans (hB4.mono hBa.size)
 have hX4 := hX3.below hB4
 have x0 := hX4.cell 0
 have x1 := hX4.cell 1
 have x2 := hX4.cell 2
 have HII := hid (HI.out m B R hg)
 cases ok with
 | false =>
   have HN := hid (show t ≠ I from fun e => by have := hok.2 (HII.out.1 e); cases this)
   clear hok
   go_wp2_with fail
   go_ret2
   exact HP3.out _ hB04 ⟨m, B, R, hg⟩ HN.out
 | true =>
   have HY := hid (HII.out.2 (hok.1 rfl))
   obtain ⟨rfl, rfl, rfl⟩ := hok.1 rfl
   clear hok
   have hXN := za.new w4 67 #[.pointer (some ⟨q, 0, none⟩), .pointer (some ⟨x, 0, none⟩), .pointer (some ⟨y, 0, none⟩), .string s]
   have hB25 := hB24.alloc hB24.size (.cells #[.pointer (some ⟨q, 0, none⟩), .pointer (some ⟨x, 0, none⟩), .pointer (some ⟨y, 0, none⟩), .string s] 67)
   have hB05 := hB04.alloc hB04.size (.cells #[.pointer (some ⟨q, 0, none⟩), .pointer (some ⟨x, 0, none⟩), .pointer (some ⟨y, 0, none⟩), .string s] 67)
   go_wp2_with fail
   go_ret2
   exact HP1.out _ _ hB05 (HMK.out _ _ _ _ _ _ _ hXN (hq.below hB25) (hx.below hB25) (hy.below hB25)) HY.out
end Go.Proofs.YtgpbpgpolpakjaaGreatDoor
