/- Proof text. -/
import Derived.Test.YtgpbpgpolpakjaaGreatDoorTabE
import Derived.Test.YtgpbpgpolpakjaaGreatDoorBldF
set_option maxHeartbeats 4000000
set_option linter.unusedVariables false
set_option linter.unusedSimpArgs false
set_option maxRecDepth 100000
namespace Go.Proofs.YtgpbpgpolpakjaaGreatDoor
open Go.RowKit Go.Shelf L
def L.les (ns : List Nat) : List UInt8 := ns.flatMap (leB · 8)
theorem L.zyl (ns : List Nat) : (les ns).length = 8 * ns.length := by
 unfold les
 induction ns with
 | nil => rfl
 | cons a l ih => rw [List.flatMap_cons, List.length_append, ih, ze, List.length_cons]; omega
theorem L.z4g (ns : List Nat) (n : Nat) : les (ns ++ [n]) = les ns ++ leB n 8 := by unfold les; rw [List.flatMap_append]; simp
theorem L.z4h (ns : List Nat) (k : Nat) (h : k < ns.length) : les (ns.take (k + 1)) = les (ns.take k) ++ leB ns[k] 8 := by rw [List.take_succ_eq_append_getElem h, z4g]
theorem zym (B b g : Nat) (l : List UInt8) (ns : List Nat) (w : World) (h : Lib.IsBuilderF 150 5 B b (Lib.byteCells l) w) (hlen : l.length + 8 * ns.length ≤ 140737488300000) (hBw : B ≤ w.heap.size)
  (hg : za w g 47 (u64s ns).toArray) (hgb : g ≠ b) (hns : ∀ n ∈ ns, n < 18446744073709551616) (hn : ns.length ≤ 100) :
  Calls Tryz.prog 122 #[.pointer (some ⟨b, 0, none⟩), .slice (some ⟨g, 0, none⟩) ns.length ns.length] w fun e w' => e = .returned (.tuple #[]) ∧ BWr B b (Lib.byteCells (l ++ les ns)) w w' := by
 go_enter Tryz.func122, Tryz.ntmps122
 go_wp2_with fail
 go_loopw [8] (fun i wr => ∃ k : Nat, k ≤ ns.length ∧ i = .int .i64 (k : Nat) ∧ BWr B b (Lib.byteCells (l ++ les (ns.take k))) w wr) (fun i _ => ns.length - (intOf i).toNat)
 case atStart => exact ⟨0, by omega, rfl, by rw [show l ++ les (ns.take 0) = l from by simp [les]]; exact BWr.refl h⟩
 case round =>
  obtain ⟨k, hk, rfl, hW⟩ := hrel
  have hz := hW.low.size
  rcases Nat.lt_or_ge k ns.length with hlt | hge
  ·have hki : (k : Int) < (ns.length : Int) := by omega
   have hk0 : (0 : Int) ≤ (k : Int) := by omega
   have hkW := zg k (by omega)
   have hc : wr.cell? ⟨g, k, none⟩ = some (.int .u64 (ns[k] : Nat)) := by
    rw [(hW.blk hg hgb (by decide)).cell k]
    simp [u64s, List.getElem?_eq_getElem hlt]
   have HT := hid (z4h ns k hlt)
   have HL := hid (zyl (ns.take k))
   have hv := hns _ (List.getElem_mem hlt)
   have hlk : (ns.take k).length = k := by rw [List.length_take]; omega
   have HLK := hid hlk
   clear hlk
   generalize ns[k] = v at *
   go_wp2_with fail
   go_loopw [5, 12] (fun x i w2 => ∃ j : Nat, j ≤ 8 ∧ i = .int .i64 j ∧ x = .int .u64 (v / 256 ^ j : Nat) ∧ BWr B b (Lib.byteCells (l ++ les (ns.take k) ++ leB v j)) w w2) (fun _ i _ => 8 - (intOf i).toNat)
   case atStart => exact ⟨0, by omega, rfl, by simp, by simpa [leB] using hW⟩
   case round =>
    obtain ⟨j, hj, rfl, rfl, hb⟩ := hrel
    have hsz := hb.low.size
    rcases Nat.lt_or_ge j 8 with hlt2 | hge2
    ·have hlen2 : (Lib.byteCells (l ++ les (ns.take k) ++ leB v j)).length + 1 ≤ 140737488355328 := by rw [Lib.byteCells_length, List.length_append, List.length_append, ze, HL.out, HLK.out]; omega
     have H := hid (show Lib.byteCells (l ++ les (ns.take k) ++ leB v j) ++ [.int .u8 ((v / 256 ^ j : Nat) % 256 : Int)] = Lib.byteCells (l ++ les (ns.take k) ++ leB v (j + 1)) by
      rw [zfr, ← List.append_assoc, byteCells_append _ [UInt8.ofNat _], byteCells_one]; simp)
     have hx : v / 256 ^ j < 18446744073709551616 := Nat.lt_of_le_of_lt (Nat.div_le_self _ _) hv
     have H2 := hid (show ((v / 256 ^ j : Nat) : Int) / 256 = ((v / 256 ^ (j + 1) : Nat) : Int) by rw [Nat.pow_succ, ← Nat.div_div_eq_div_mul]; rfl)
     generalize hy : v / 256 ^ j = y at *
     go_wp2_with fail
     refine (zug B b _ ((y : Int) % 256) _ hb.is hlen2 (by omega)).mono ?_
     rintro e w3 ⟨rfl, hb3⟩
     rw [H.out] at hb3
     go_wp2_with fail
     go_roundw
     case rel => exact ⟨j + 1, by omega, by go_num, by rw [H2.out], hb.trans hb3⟩
     case measure => simp [intOf]; omega
    ·obtain rfl : j = 8 := by omega
     go_wp2_with fail
     go_roundw
     case rel => exact ⟨k + 1, by omega, by go_num, by rw [HT.out, ← List.append_assoc]; exact hb⟩
     case measure => simp [intOf]; omega
  ·obtain rfl : k = ns.length := by omega
   go_wp2_with fail
   go_end0
   exact ⟨rfl, by rw [List.take_length] at hW; exact hW⟩
theorem z8p {B b : Nat} {bs : List Value} {w : World} (h : Lib.IsBuilderF 150 5 B b bs w) : b < w.heap.size := h.elim (fun x => x.lt) (fun x => x.lt)
theorem zmy (B b : Nat) (l : List UInt8) (ns : List Nat) (cs : Array Value) (w : World) (h : Lib.IsBuilderF 150 5 B b (Lib.byteCells l) w) (hlen : l.length ≤ 140737488200000) (hBw : B ≤ w.heap.size) (hcs : (u64s ns).toArray = cs)
  (hns : ∀ n ∈ ns, n < 18446744073709551616) (hn : ns.length ≤ 100) :
  Calls Tryz.prog 122 #[.pointer (some ⟨b, 0, none⟩), .slice (some ⟨w.heap.size, 0, none⟩) ns.length ns.length] (w.alloc (.cells cs 47)) fun e w' => e = .returned (.tuple #[]) ∧ BWr B b (Lib.byteCells (l ++ les ns)) w w' := by
 subst hcs
 have hb := z8p h
 refine (zym B b w.heap.size l ns _ (h.alloc _) (by omega) (by simp; omega) (za.new _ _ _) (by omega) hns hn).mono ?_
 rintro e w' ⟨rfl, h2⟩
 exact ⟨rfl, ((BWr.refl h).alloc hBw _).trans h2⟩
theorem z4i (B b : Nat) (l : List UInt8) (x : Nat) (w : World) (h : Lib.IsBuilderF 150 5 B b (Lib.byteCells l) w) (hlen : l.length ≤ 140737488200000) (hBw : B ≤ w.heap.size) (hx : x < 18446744073709551616) :
  Calls Tryz.prog 122 #[.pointer (some ⟨b, 0, none⟩), .slice (some ⟨w.heap.size, 0, none⟩) 1 1] (w.alloc (.cells #[.int .u64 (x : Nat)] 47)) fun e w' => e = .returned (.tuple #[]) ∧ BWr B b (Lib.byteCells (l ++ leB x 8)) w w' := by
 have := zmy B b l [x] #[.int .u64 (x : Nat)] w h hlen hBw rfl (fun n hn => by rw [List.mem_singleton] at hn; omega) (by simp)
 simpa [les] using this
theorem zui (B b : Nat) (l : List UInt8) (x y : Nat) (w : World) (h : Lib.IsBuilderF 150 5 B b (Lib.byteCells l) w) (hlen : l.length ≤ 140737488200000) (hBw : B ≤ w.heap.size) (hx : x < 18446744073709551616) (hy : y < 18446744073709551616) :
  Calls Tryz.prog 122 #[.pointer (some ⟨b, 0, none⟩), .slice (some ⟨w.heap.size, 0, none⟩) 2 2] (w.alloc (.cells #[.int .u64 (x : Nat), .int .u64 (y : Nat)] 47)) fun e w' => e = .returned (.tuple #[]) ∧ BWr B b (Lib.byteCells (l ++ (leB x 8 ++ leB y 8))) w w' := by
 have := zmy B b l [x, y] #[.int .u64 (x : Nat), .int .u64 (y : Nat)] w h hlen hBw rfl (fun n hn => by
  rcases List.mem_cons.1 hn with rfl | hn
  ·exact hx
  ·rw [List.mem_singleton] at hn; omega) (by simp)
 simpa [les] using this
theorem z4j (B b : Nat) (l : List UInt8) (x y z : Nat) (w : World) (h : Lib.IsBuilderF 150 5 B b (Lib.byteCells l) w) (hlen : l.length ≤ 140737488200000) (hBw : B ≤ w.heap.size) (hx : x < 18446744073709551616) (hy : y < 18446744073709551616) (hz : z < 18446744073709551616) :
  Calls Tryz.prog 122 #[.pointer (some ⟨b, 0, none⟩), .slice (some ⟨w.heap.size, 0, none⟩) 3 3] (w.alloc (.cells #[.int .u64 (x : Nat), .int .u64 (y : Nat), .int .u64 (z : Nat)] 47)) fun e w' => e = .returned (.tuple #[]) ∧ BWr B b (Lib.byteCells (l ++ (leB x 8 ++ (leB y 8 ++ leB z 8)))) w w' := by
 have := zmy B b l [x, y, z] #[.int .u64 (x : Nat), .int .u64 (y : Nat), .int .u64 (z : Nat)] w h hlen hBw rfl (fun n hn => by
  rcases List.mem_cons.1 hn with rfl | hn
  ·exact hx
  ·rcases List.mem_cons.1 hn with rfl | hn
   ·exact hy
   ·rw [List.mem_singleton] at hn; omega) (by simp)
 simpa [les] using this
theorem zyn : Lib.byteCells [] ++ Lib.strCells (ByteArray.mk #[108, 97, 99, 101, 119, 111, 114, 107]) = Lib.byteCells zd4 := rfl
theorem z4k : (Lib.byteCells []).length + (ByteArray.mk #[108, 97, 99, 101, 119, 111, 114, 107]).size ≤ 140737488355328 := by
 show 0 + 8 ≤ _
 omega
theorem zuj (t : TabN) (A : Option Addr) (c : Nat) (w : World) (hl : Lst w A (entC t.es)) (hf : zae t) (hL : (zak t).length ≤ 1000000000) :
  Calls Tryz.prog 71 #[.agg #[.int .i64 t.deep, .int .i64 t.size, .slice A t.es.length c]] w fun e w' => e = .returned (.tuple #[.string ⟨(tabL t).toArray⟩, .int .i64 0]) ∧ Below w.heap.size w w' := by
 have HFM := hid (fun W (hW : Lst W A (entC t.es)) => zjo t.deep t.size A c t.es W hW (by have := hf.2.2.2.2.1; omega))
 have HT := hid hf
 obtain ⟨f1, f2, f3, f4, f5, f6⟩ := hf
 obtain ⟨dI, zI, es⟩ := t
 dsimp only at *
 obtain ⟨d, rfl⟩ : ∃ d : Nat, dI = (d : Int) := ⟨dI.toNat, by omega⟩
 obtain ⟨z, rfl⟩ : ∃ z : Nat, zI = (z : Int) := ⟨zI.toNat, by omega⟩
 have HE := hid (f6.inR f4)
 have HLL := hid (show ∀ k, k ≤ es.length → (zbd d z es.length ++ zad (es.take k)).length ≤ 1000000000 from fun k hk => by
  have e : zak ⟨(d : Nat), (z : Nat), es⟩ = zbd d z es.length ++ zad es := by unfold zak; simp
  rw [e, List.length_append] at hL
  have h2 : (zad es).length = (zad (es.take k)).length + (zad (es.drop k)).length := by
   rw [← List.length_append, ← zeg, List.take_append_drop]
  rw [List.length_append]
  omega)
 have HHL := hid (show zak ⟨(d : Nat), (z : Nat), es⟩ = zbd d z es.length ++ zad es by unfold zak; simp)
 have hX0 := za.new w 107 #[.int .i64 (d : Nat), .int .i64 (z : Nat), .slice A es.length c]
 have hB0 : Below w.heap.size w (w.alloc (.cells #[.int .i64 (d : Nat), .int .i64 (z : Nat), .slice A es.length c] 107)) := (Below.refl _ _).alloc (Nat.le_refl _) _
 have hl0 := hl.below hB0
 have x0 := hX0.cell 0
 have x1 := hX0.cell 1
 have x2 := hX0.cell 2
 clear f6 hL
 go_enter Tryz.func71, Tryz.ntmps71
 go_wp2_with fail
 generalize (w.alloc (.cells #[.int .i64 (d : Nat), .int .i64 (z : Nat), .slice A es.length c] 107)) = W0 at *
 refine (HFM.out _ hl0).mono ?_
 rintro e w1 ⟨ok, rfl, hok, hB1⟩
 obtain rfl := hok.2 HT.out
 have hX1 := hX0.below hB1
 have hl1 := hl0.below hB1
 have hB01 := hB0.trans (hB1.mono hB0.size)
 have hX1l := hX1.lt
 clear hok HFM hX0 hB0 hl0 hB1 x0 x1 x2 HT
 go_wp2_with fail
 have hz1 := hB01.size
 have hBW0 := hB01
 have hb0 : Lib.IsBuilderF 150 5 w1.heap.size w1.heap.size (Lib.byteCells []) (w1.alloc (.cells #[.pointer none, .slice none 0 0] 150)) :=
  Lib.IsBuilderF.of (.inl ⟨Nat.le_refl _, _, za.new _ _ _, World.ownsRow_nil _ _ _ _, by simp [Value.ownBlock]⟩)
 have hBb : Below w1.heap.size w1 (w1.alloc (.cells #[.pointer none, .slice none 0 0] 150)) := (Below.refl _ _).alloc (Nat.le_refl _) _
 have hbs : (w1.alloc (.cells #[.pointer none, .slice none 0 0] 150)).heap.size = w1.heap.size + 1 := by simp
 have hX2 := hX1.below hBb
 have hl2 := hl1.below hBb
 generalize w1.alloc (.cells #[.pointer none, .slice none 0 0] 150) = Wb at *
 obtain ⟨B, hB⟩ : ∃ B, B = w1.heap.size := ⟨_, rfl⟩
 rw [← hB] at hb0 hBb hbs hz1 hX1l ⊢
 have neX : w.heap.size ≠ B := by omega
 have HBW := hid (show ∀ w', Below B Wb w' → Below w.heap.size w w' from fun w' h => (hBW0.trans (hBb.mono hz1)).trans (h.mono (by omega)))
 clear hB
 refine (zw5 B B _ (ByteArray.mk #[108, 97, 99, 101, 119, 111, 114, 107]) Wb hb0 z4k (by omega)).mono ?_
 rintro e w3 ⟨rfl, hW3⟩
 have hW3' : BWr B B (Lib.byteCells zd4) Wb w3 := by rw [zyn] at hW3; exact hW3
 clear hW3
 have hX3 := hW3'.blk hX2 neX (by decide)
 have x0 := hX3.cell 0
 have x1 := hX3.cell 1
 have x2 := hX3.cell 2
 have hz3 := hW3'.low.size
 have r1 : IntKind.u64.wrap (d : Int) = (d : Int) := by rw [IntKind.wrap_u64]; omega
 have r2 : IntKind.u64.wrap (z : Int) = (z : Int) := by rw [IntKind.wrap_u64]; omega
 have r3 : IntKind.u64.wrap (es.length : Int) = (es.length : Int) := by rw [IntKind.wrap_u64]; omega
 go_wp2_with fail
 refine (z4j B B zd4 d z es.length w3 hW3'.is (by simp [zd4]) (by omega) (by omega) (by omega) (by omega)).mono ?_
 rintro e w4 ⟨rfl, hW4⟩
 have hW4' : BWr B B (Lib.byteCells (zbd d z es.length)) Wb w4 := hW3'.trans hW4
 have hX4 := hW4'.blk hX2 neX (by decide)
 have x0 := hX4.cell 0
 have x1 := hX4.cell 1
 have x2 := hX4.cell 2
 clear hW3' hW4 hX3 hz3 r1 r2 r3
 go_wp2_with fail
 go_loopw [26] (fun i wr => ∃ k : Nat, k ≤ es.length ∧ i = .int .i64 (k : Nat) ∧ BWr B B (Lib.byteCells (zbd d z es.length ++ zad (es.take k))) Wb wr) (fun i _ => es.length - (intOf i).toNat)
 case atStart => exact ⟨0, by omega, rfl, by rw [show zbd d z es.length ++ zad (es.take 0) = zbd d z es.length by simp [zad]]; exact hW4'⟩
 case round =>
  obtain ⟨k, hk, rfl, hW⟩ := hrel
  clear hW4' hX4 x0 x1 x2
  have hzr := hW.low.size
  have hXr := hW.blk hX2 neX (by decide)
  have hLk := HLL.out k hk
  rcases Nat.lt_or_ge k es.length with hlt | hge
  ·have hki : (k : Int) < (es.length : Int) := by omega
   have hk0 : (0 : Int) ≤ (k : Int) := by omega
   have hkW := zg k (by omega)
   obtain ⟨g, o, rfl, hg, k0, k1, k2, k3, k4⟩ := zdm (hl.below (HBW.out _ hW.low)) hlt
   have hx := HE.out es[k] (List.getElem_mem hlt)
   have HT := hid (show zbd d z es.length ++ zad (es.take (k + 1)) = zbd d z es.length ++ zad (es.take k) ++ entL es[k] by rw [List.take_succ_eq_append_getElem hlt, zgx, List.append_assoc])
   generalize es[k] = x at *
   obtain ⟨xa, xb, xv, xp, xs⟩ := x
   unfold InR at hx
   dsimp only at k0 k1 k2 k3 k4 hx
   obtain ⟨q1, q2, q3, q4, q5, q6, q7, q8, q9⟩ := hx
   obtain ⟨na, rfl⟩ : ∃ n : Nat, xa = (n : Int) := ⟨xa.toNat, by omega⟩
   obtain ⟨nb_, rfl⟩ : ∃ n : Nat, xb = (n : Int) := ⟨xb.toNat, by omega⟩
   obtain ⟨nv, rfl⟩ : ∃ n : Nat, xv = (n : Int) := ⟨xv.toNat, by omega⟩
   obtain ⟨np, rfl⟩ : ∃ n : Nat, xp = (n : Int) := ⟨xp.toNat, by omega⟩
   have HNB := hid (show na < 18446744073709551616 ∧ nb_ < 18446744073709551616 ∧ np < 18446744073709551616 ∧ xs.size < 18446744073709551616 from by omega)
   have r1 : IntKind.u64.wrap (na : Int) = (na : Int) := by rw [IntKind.wrap_u64]; omega
   have r2 : IntKind.u64.wrap (nb_ : Int) = (nb_ : Int) := by rw [IntKind.wrap_u64]; omega
   have r3 : IntKind.u8.wrap (nv : Int) = (nv : Int) := by rw [IntKind.wrap_u8]; omega
   have r4 : IntKind.u64.wrap (np : Int) = (np : Int) := by rw [IntKind.wrap_u64]; omega
   have r5 : IntKind.u64.wrap (xs.size : Int) = (xs.size : Int) := by rw [IntKind.wrap_u64]; omega
   have HENT := hid (show entL ⟨(na : Nat), (nb_ : Nat), (nv : Nat), (np : Nat), xs⟩ = leB na 8 ++ leB nb_ 8 ++ leB nv 1 ++ (leB np 8 ++ leB xs.size 8) ++ xs.data.toList by unfold entL; simp)
   have HVB := hid (show Lib.byteCells (leB nv 1) = [.int .u8 (nv : Nat)] by rw [show leB nv 1 = [UInt8.ofNat nv] by simp [leB], byteCells_one, Nat.mod_eq_of_lt (by omega)])
   generalize zbd d z es.length ++ zad (es.take k) = l at *
   have hWa := hW.alloc (by omega) (.cells #[.int .i64 (na : Nat), .int .i64 (nb_ : Nat), .int .i64 (nv : Nat), .int .i64 (np : Nat), .string xs] 113)
   have hEa := za.new wr 113 #[.int .i64 (na : Nat), .int .i64 (nb_ : Nat), .int .i64 (nv : Nat), .int .i64 (np : Nat), .string xs]
   have hza : (wr.alloc (.cells #[.int .i64 (na : Nat), .int .i64 (nb_ : Nat), .int .i64 (nv : Nat), .int .i64 (np : Nat), .string xs] 113)).heap.size = wr.heap.size + 1 := by simp
   have e0 := hEa.cell 0
   have e1 := hEa.cell 1
   have neE : wr.heap.size ≠ B := by omega
   clear q1 q2 q3 q4 q5 q7
   go_wp2_with fail
   generalize (wr.alloc (.cells #[.int .i64 (na : Nat), .int .i64 (nb_ : Nat), .int .i64 (nv : Nat), .int .i64 (np : Nat), .string xs] 113)) = wa at *
   rw [← hza]
   have hBa : B ≤ wa.heap.size := by omega
   obtain ⟨E, hE⟩ : ∃ E, E = wr.heap.size := ⟨_, rfl⟩
   rw [← hE] at hEa e0 e1 neE ⊢
   clear hza hE
   refine (zui B B l na nb_ wa hWa.is (by omega) hBa HNB.out.1 HNB.out.2.1).mono ?_
   rintro e w5 ⟨rfl, hW5⟩
   have hV5 := hWa.trans hW5
   have hE5 := hW5.blk hEa neE (by decide)
   have e0 := hE5.cell 2
   have hz5 := hV5.low.size
   clear e1 hEa hWa hW5 hBa
   go_wp2_with fail
   refine (zug B B _ (nv : Nat) w5 hV5.is (by rw [Lib.byteCells_length, List.length_append, List.length_append, ze, ze]; omega) (by omega)).mono ?_
   rintro e w6 ⟨rfl, hW6⟩
   rw [← HVB.out, ← byteCells_append] at hW6
   have hV6 := hV5.trans hW6
   have hE6 := hW6.blk hE5 neE (by decide)
   have e0 := hE6.cell 3
   have e1 := hE6.cell 4
   have hz6 := hV6.low.size
   clear hV5 hE5 hW6 hz5
   go_wp2_with fail
   refine (zui B B _ np xs.size w6 hV6.is (by rw [List.length_append, List.length_append, List.length_append, ze, ze, ze]; omega) (by omega) HNB.out.2.2.1 HNB.out.2.2.2).mono ?_
   rintro e w7 ⟨rfl, hW7⟩
   have hV7 := hV6.trans hW7
   have hE7 := hW7.blk hE6 neE (by decide)
   have e0 := hE7.cell 4
   have hz7 := hV7.low.size
   clear hV6 hE6 hW7 hz6 e1
   go_wp2_with fail
   refine (zw5 B B _ xs w7 hV7.is (by rw [Lib.byteCells_length, List.length_append, List.length_append, List.length_append, List.length_append, List.length_append, ze, ze, ze, ze, ze]; omega) (by omega)).mono ?_
   rintro e w8 ⟨rfl, hW8⟩
   rw [show Lib.strCells xs = Lib.byteCells xs.data.toList from rfl, ← byteCells_append] at hW8
   have hV8 := hV7.trans hW8
   go_wp2_with fail
   go_roundw
   case rel => exact ⟨k + 1, by omega, by go_num, by rw [HT.out, HENT.out]; simpa [List.append_assoc] using hV8⟩
   case measure => simp [intOf]; omega
  ·obtain rfl : k = es.length := by omega
   rw [List.take_length, ← HHL.out] at hW hLk
   have HTB := hid (show tabL ⟨(d : Nat), (z : Nat), es⟩ = zak ⟨(d : Nat), (z : Nat), es⟩ ++ leB (sumL (zak ⟨(d : Nat), (z : Nat), es⟩)) 8 from rfl)
   clear HHL HLL HE
   generalize zak ⟨(d : Nat), (z : Nat), es⟩ = l at *
   have hsl := zfe l
   have HSM := hid (fun W => zod ⟨l.toArray⟩ W (by show l.toArray.size ≤ _; rw [List.size_toArray]; exact hLk))
   rw [show (ByteArray.mk l.toArray).data.toList = l from by simp] at HSM
   generalize sumL l = sm at *
   go_wp2_with fail
   refine (zuh B B l wr hW.is (by omega)).mono ?_
   rintro e w5 ⟨rfl, hW5⟩
   have hV5 := hW.trans hW5
   have hz5 := hV5.low.size
   go_wp2_with fail
   refine (HSM.out _).mono ?_
   rintro e w' ⟨rfl, rfl⟩
   go_wp2_with fail
   refine (z4i B B l sm w5 hV5.is (by omega) (by omega) hsl).mono ?_
   rintro e w6 ⟨rfl, hW6⟩
   have hV6 := hV5.trans hW6
   have hz6 := hV6.low.size
   go_wp2_with fail
   refine (zuh B B _ w6 hV6.is (by omega)).mono ?_
   rintro e w7 ⟨rfl, hW7⟩
   have hV7 := hV6.trans hW7
   go_wp2_with fail
   go_ret2
   exact ⟨by rw [HTB.out]; rfl, HBW.out _ hV7.low⟩
end Go.Proofs.YtgpbpgpolpakjaaGreatDoor
