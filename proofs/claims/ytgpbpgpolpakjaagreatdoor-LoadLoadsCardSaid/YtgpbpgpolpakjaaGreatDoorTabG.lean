/- Proof text. -/
import Derived.Test.YtgpbpgpolpakjaaGreatDoorTabE
import Derived.Test.YtgpbpgpolpakjaaGreatDoorSemiX
set_option maxHeartbeats 16000000
set_option linter.unusedVariables false
set_option linter.unusedSimpArgs false
set_option maxRecDepth 100000
namespace Go.Proofs.YtgpbpgpolpakjaaGreatDoor
open Go.RowKit Go.Shelf L
theorem Tryz.infoEnt : (Tryz.prog.info? 113).map (fun i => (i.zero, i.size, i.bytes)) = some (some (.agg #[.int .i64 0, .int .i64 0, .int .i64 0, .int .i64 0, .string ⟨#[]⟩]), 5, 48) := by kernel_rfl
theorem za8 : ∃ fs, Tryz.prog.underlying 107 = some (.struct fs) := ⟨_, by rfl⟩
theorem zbh : (Tryz.prog.info? 107).map (·.size) = some 3 := by rfl
def L.zgy (d n : Nat) (k : Nat) (es : List EntI) (l : List UInt8) : Option (TabN × List UInt8) := (zd5 k l).bind fun y => some (⟨(d : Nat), (n : Nat), es ++ y.1⟩, y.2)
theorem L.z1b {d n k : Nat} {es : List EntI} {l r : List UInt8} {x : EntI} (h : entP l = some (x, r)) : zgy d n (k + 1) es l = zgy d n k (es ++ [x]) r := by
 unfold zgy
 rw [show zd5 (k + 1) l = (entP l).bind fun x => (zd5 k x.2).bind fun y => some (x.1 :: y.1, y.2) from rfl, h]
 simp only [Option.bind_some]
 cases zd5 k r with
 | none => rfl
 | some y => simp
theorem L.zyk {d n k : Nat} {es : List EntI} {l : List UInt8} (h : entP l = none) : zgy d n (k + 1) es l = none := by
 unfold zgy
 rw [show zd5 (k + 1) l = (entP l).bind fun x => (zd5 k x.2).bind fun y => some (x.1 :: y.1, y.2) from rfl, h]; rfl
theorem z4f {h s1 s2 s3 s4 : ByteArray} {b2 b3 b4 : Bool} {d n k : Nat} (hn : h.data.toList.take 8 = zd4) (hs : s1.data.toList = h.data.toList.drop 8) (h1 : NumR s1 false 4096 d s2 b2) (h2 : NumR s2 b2 1048576 n s3 b3) (h3 : NumR s3 b3 4096 k s4 b4) :
  (b4 = false ∧ zeo h.data.toList = zgy d n k [] s4.data.toList) ∨ (b4 = true ∧ zeo h.data.toList = none) := by
 have hl : ¬ h.data.toList.length < 8 := fun hl => by
  have := congrArg List.length hn
  rw [List.length_take, zef] at this; omega
 have e0 : zeo h.data.toList = (numP 4096 s1.data.toList).bind fun d => (numP 1048576 d.2).bind fun n => (numP 4096 n.2).bind fun k => (zd5 k.1 k.2).bind fun es => some (⟨d.1, n.1, es.1⟩, es.2) := by
  unfold zeo
  rw [if_neg hl, if_neg (by rw [hn]; simp), hs]
 rw [e0]
 have hbad : ∀ {s s' : ByteArray} {b b' : Bool} {m v : Nat}, b = true → NumR s b m v s' b' → b' = true := fun hb h => by
  rcases h with ⟨e, _⟩ | ⟨_, _, e⟩
  ·rw [hb] at e; cases e
  ·exact e
 rcases h1 with ⟨_, rfl, e1⟩ | ⟨hx, _, hb⟩
 case inr =>
  refine .inr ⟨hbad (hbad hb h2) h3, ?_⟩
  rcases hx with hx | hx
  ·cases hx
  ·rw [hx]; rfl
 rw [e1]; simp only [Option.bind_some]
 rcases h2 with ⟨_, rfl, e2⟩ | ⟨hx, _, hb⟩
 case inr =>
  refine .inr ⟨hbad hb h3, ?_⟩
  rcases hx with hx | hx
  ·cases hx
  ·rw [hx]; rfl
 rw [e2]; simp only [Option.bind_some]
 rcases h3 with ⟨_, rfl, e3⟩ | ⟨hx, _, hb⟩
 case inr =>
  refine .inr ⟨hb, ?_⟩
  rcases hx with hx | hx
  ·cases hx
  ·rw [hx]; rfl
 rw [e3]; simp only [Option.bind_some]
 refine .inl ⟨by first | rfl | trivial, ?_⟩
 rfl
theorem L.val8 {l : List UInt8} {x : Nat} (h : l.length = 8) (hx : x < 18446744073709551616) : valL l = x ↔ leB x 8 = l := by
 constructor
 ·intro e
  have := zw0 (l := l) (by omega)
  rw [e, List.drop_of_length_le (by omega), List.append_nil] at this
  exact this
 ·intro e
  have := zph (n := x) (r := []) (by omega)
  rw [List.append_nil, e] at this
  exact this
theorem zk5 {w : World} {base size : Nat} {e : TypeId} {A : Option Addr} {n c : Nat} {xs : List Value} (h : w.ownsRow base e size (.slice A n c) n xs) : ∀ ad, A = some ad → base ≤ ad.block := by
 intro ad hA
 subst hA
 rcases h.2 with ⟨hv, _⟩ | ⟨g, cap, cur, hv, hb, _⟩
 ·cases hv
 ·cases hv; exact hb
theorem zdi (w : World) (x y z u v : Value) (e : TypeId) (k : Nat) (hk : k = w.heap.size) : ∀ j r, [x, y, z, u, v][j]? = some r → (w.alloc (.cells #[x, y, z, u, v] e)).cell? ((⟨k, 0, none⟩ : Addr).add j) = some r := by
 subst hk
 intro j r hr
 rw [zdk, (za.new w e #[x, y, z, u, v]).cell j]
 simpa using hr
def zfp (l : List UInt8) (w : World) (e : Ending) (w' : World) : Prop :=
 Below w.heap.size w w' ∧ ((∃ t A c, e = .returned (.tuple #[.agg #[.int .i64 t.deep, .int .i64 t.size, .slice A t.es.length c], .int .i64 0]) ∧ Lst w' A (entC t.es) ∧ za1 l t) ∨
  (e = .returned (.tuple #[.agg #[.int .i64 0, .int .i64 0, .slice none 0 0], .int .i64 (zb8 l : Nat)]) ∧ ∀ t, ¬ za1 l t))
theorem zk6 (s : ByteArray) : (s.toList == s.toList) = true := by rw [beq_iff_eq]
theorem zvs (s : ByteArray) (w : World) (hs : s.size ≤ 1000000) :
  Calls Tryz.prog 68 #[.string s] w (zfp s.data.toList w) := by
 have HF := hid (show ∀ w' k, Below w.heap.size w w' → (∀ t, ¬ za1 s.data.toList t) → k = zb8 s.data.toList → zfp s.data.toList w (.returned (.tuple #[.agg #[.int .i64 0, .int .i64 0, .slice none 0 0], .int .i64 (k : Nat)])) w' from fun w' k h1 h2 h3 => ⟨h1, .inr ⟨by rw [h3], h2⟩⟩)
 have hsl := zan s
 have hR0 := za.new w 107 #[.int .i64 0, .int .i64 0, .slice none 0 0]
 have hB0 : Below w.heap.size w (w.alloc (.cells #[.int .i64 0, .int .i64 0, .slice none 0 0] 107)) := (Below.refl _ _).alloc (Nat.le_refl _) _
 have r0 := hR0.cell 0
 have r1 := hR0.cell 1
 have r2 := hR0.cell 2
 have f0 := hR0.frozen 0
 have f1 := hR0.frozen 1
 have f2 := hR0.frozen 2
 by_cases h40 : s.size < 40
 ·have h40I : (s.size : Int) < 40 := by omega
  have HN := hid (show ∀ t, ¬ za1 s.data.toList t from fun t h => by have := (zff.1 h).1; omega)
  have HE := hid (show (3 : Nat) = zb8 s.data.toList from by unfold zb8; rw [if_pos (by omega)])
  clear hsl
  go_enter Tryz.func68, Tryz.ntmps68
  go_wp2_with fail
  (try simp only [Exit.inBlock, Exit.then])
  refine bodyPost_ret (zw rfl _ _ w.heap.size _ #[.int .i64 0, .int .i64 0, .slice none 0 0] rfl hR0 za8 zbh) rfl ?_
  exact HF.out _ 3 hB0 HN.out HE.out
 ·have h40I : ¬ (s.size : Int) < 40 := by omega
  obtain ⟨n, hn⟩ : ∃ n, n = s.size - 8 := ⟨_, rfl⟩
  have hnI : (s.size : Int) - 8 = (n : Int) := by omega
  have hnL : (n : Int) ≤ (s.size : Int) := by omega
  have hn0 : (0 : Int) ≤ (n : Int) := by omega
  obtain ⟨h, hh⟩ : ∃ h, h = s.extract 0 n := ⟨_, rfl⟩
  obtain ⟨u, hu⟩ : ∃ u, u = s.extract n s.size := ⟨_, rfl⟩
  have hhl : h.data.toList = s.data.toList.take (s.data.toList.length - 8) := by rw [hh, ext_list, List.drop_zero, Nat.sub_zero, hsl, hn]
  have hul : u.data.toList = s.data.toList.drop (s.data.toList.length - 8) := by
   rw [hu, ext_list, hsl, hn]; exact List.take_of_length_le (by rw [List.length_drop, hsl]; exact Nat.le_refl _)
  have hhs : h.size = n := by rw [hh, ByteArray.size_extract]; omega
  have hus : u.size = 8 := by rw [hu, ByteArray.size_extract]; omega
  have HT := hid (show ∀ t, za1 s.data.toList t ↔ (leB (sumL h.data.toList) 8 = u.data.toList ∧ zb7 h.data.toList t) from fun t => by
   rw [zff, ← hhl, ← hul]
   exact ⟨fun x => x.2, fun x => ⟨by omega, x⟩⟩)
  have HE := hid (show zb8 s.data.toList = if leB (sumL h.data.toList) 8 = u.data.toList then 3 else 11 from by unfold zb8; rw [if_neg (by omega), ← hhl, ← hul])
  have HV := hid (L.val8 (l := u.data.toList) (x := sumL h.data.toList) (by rw [zan]; exact hus) (zfe _))
  have hvl := zlk u.data.toList
  have hsl2 := zfe h.data.toList
  obtain ⟨v, hv⟩ : ∃ v, v = valL u.data.toList := ⟨_, rfl⟩
  obtain ⟨x, hx⟩ : ∃ x, x = sumL h.data.toList := ⟨_, rfl⟩
  have HWD := hid (show ∀ W, Calls Tryz.prog 115 #[.string (s.extract n s.size)] W fun e w' => e = .returned (.int .u64 (v : Nat)) ∧ W = w' from fun W => by rw [← hu, hv]; exact zmt u W (by omega))
  have HSM := hid (show ∀ W, Calls Tryz.prog 116 #[.string (s.extract 0 n)] W fun e w' => e = .returned (.int .u64 (x : Nat)) ∧ W = w' from fun W => by rw [← hh, hx]; exact zod h W (by omega))
  rw [← hv, ← hx] at HV
  rw [← hx] at HE
  have HTX := hid (show ∀ t, za1 s.data.toList t ↔ (leB x 8 = u.data.toList ∧ zb7 h.data.toList t) from fun t => by rw [hx]; exact HT.out t)
  have hR0l := hR0.lt
  have HH := hid hh
  have HHS := hid (show 32 ≤ h.size by omega)
  clear hhl hul hsl HT hvl hsl2 hv hx hn hh hu hhs hus
  by_cases hvx : v = x
  case neg =>
   have hb1 : ((v : Int) != (x : Int)) = true := by rw [bne_iff_ne]; omega
   have hb2 : ¬ ((v : Int) = (x : Int)) := by omega
   have HN := hid (show ∀ t, ¬ za1 s.data.toList t from fun t ht => hvx (HV.out.2 ((HTX.out t).1 ht).1))
   have HE2 := hid (show (11 : Nat) = zb8 s.data.toList from by rw [HE.out, if_neg (fun e => hvx (HV.out.2 e))])
   clear hvx
   go_enter Tryz.func68, Tryz.ntmps68
   go_wp2_with fail
   go_quiet (first | (go_at_call 115; exact zax (HWD.out _)) | (go_at_call 116; exact zax (HSM.out _)))
   go_wp2_with fail
   (try simp only [Exit.inBlock, Exit.then])
   refine bodyPost_ret (zw rfl _ _ w.heap.size _ #[.int .i64 0, .int .i64 0, .slice none 0 0] rfl (zba (hR0.drewN _) _ _ _) za8 zbh) rfl ?_
   exact HF.out _ 11 (zat (below_drewN hB0 _) (Nat.le_refl _) _ _ _) HN.out HE2.out
  subst hvx
  have HE2 := hid (show (3 : Nat) = zb8 s.data.toList from by rw [HE.out, if_pos (HV.out.1 rfl)])
  have HT3 := hid (show ∀ t, za1 s.data.toList t ↔ zb7 h.data.toList t from fun t => by rw [HTX.out t]; exact ⟨fun x => x.2, fun x => ⟨HV.out.1 rfl, x⟩⟩)
  clear HE HV HTX
  go_enter Tryz.func68, Tryz.ntmps68
  go_wp2_with fail
  go_quiet (first | (go_at_call 115; exact zax (HWD.out _)) | (go_at_call 116; exact zax (HSM.out _)))
  go_wp2_with fail
  have hg0 : RdIs (((w.alloc (.cells #[.int .i64 0, .int .i64 0, .slice none 0 0] 107)).drewN nq).alloc (.cells #[.string (s.extract 0 n), .bool false] 170)) (w.heap.size + 1) h false := by
   rw [HH.out]
   have := za.new ((w.alloc (.cells #[.int .i64 0, .int .i64 0, .slice none 0 0] 107)).drewN nq) 170 #[.string (s.extract 0 n), .bool false]
   simpa [RdIs] using this
  have hR1 : za (((w.alloc (.cells #[.int .i64 0, .int .i64 0, .slice none 0 0] 107)).drewN nq).alloc (.cells #[.string (s.extract 0 n), .bool false] 170)) w.heap.size 107 #[.int .i64 0, .int .i64 0, .slice none 0 0] := (hR0.drewN nq).alloc _
  have hB1 : Below w.heap.size w (((w.alloc (.cells #[.int .i64 0, .int .i64 0, .slice none 0 0] 107)).drewN nq).alloc (.cells #[.string (s.extract 0 n), .bool false] 170)) := (below_drewN hB0 nq).alloc (by simp) _
  clear r0 r1 r2 f0 f1 f2 hR0 hB0 HWD HSM
  generalize (((w.alloc (.cells #[.int .i64 0, .int .i64 0, .slice none 0 0] 107)).drewN nq).alloc (.cells #[.string (s.extract 0 n), .bool false] 170)) = W1 at *
  clear HH
  have neR : w.heap.size ≠ w.heap.size + 1 := by omega
  have hlow : ∀ {W W' : World}, Below w.heap.size w W → Only (fun k => k = w.heap.size + 1) W W' → Below w.heap.size w W' := fun h1 h2 => h1.trans (h2.below (fun i hi => by rw [hi]; omega) h1.size)
  refine (zjd (w.heap.size + 1) h false 8 W1 hg0).mono ?_
  rintro e w2 ⟨t, s1, b1, rfl, hg2, hO2, hTK⟩
  have hR2 := hR1.only hO2 neR
  have hB2 := hlow hB1 hO2
  have r0 := hR2.cell 0
  have r1 := hR2.cell 1
  have r2 := hR2.cell 2
  have f0 := hR2.frozen 0
  have f1 := hR2.frozen 1
  have f2 := hR2.frozen 2
  have HTK := hid (show b1 = false ∧ t.data.toList = h.data.toList.take 8 ∧ s1.data.toList = h.data.toList.drop 8 from by
   rcases hTK with ⟨_, rfl, _, rfl, rfl⟩ | ⟨hx, _, _⟩
   ·refine ⟨rfl, by rw [ext_list, List.drop_zero, Nat.sub_zero], ?_⟩
    rw [ext_list]; exact List.take_of_length_le (by rw [List.length_drop, zan]; exact Nat.le_refl _)
   ·rcases hx with hx | hx
    ·cases hx
    ·have := HHS.out; omega)
  obtain rfl := HTK.out.1
  clear hTK hg0 hR1 hO2
  by_cases hnm : t.data.toList = zd4
  case neg =>
   have q1 : (t.toList == [108, 97, 99, 101, 119, 111, 114, 107]) = false := by
    rw [beq_eq_false_iff_ne, ByteArray.toList_eq]; exact hnm
   have HN := hid (show ∀ u, ¬ za1 s.data.toList u from fun u hu => by
    have := (zep.1 ((HT3.out u).1 hu)).1
    unfold zeo at this
    rw [if_neg (by rw [zan]; have := HHS.out; omega), if_pos (by rw [← HTK.out.2.1]; exact hnm)] at this
    cases this)
   clear hnm
   go_wp2_with fail
   (try simp only [Exit.inBlock, Exit.then])
   first
    | (refine bodyPost_ret (zw rfl _ _ w.heap.size _ #[.int .i64 0, .int .i64 0, .slice none 0 0] rfl hR2 za8 zbh) rfl ?_
       exact HF.out _ 3 hB2 HN.out HE2.out)
    | (refine bodyPost_ret (zw rfl _ _ w.heap.size _ #[.int .i64 0, .int .i64 0, .slice none 0 0] rfl (zba hR2 _ _ _) za8 zbh) rfl ?_
       exact HF.out _ 3 (zat hB2 (Nat.le_refl _) _ _ _) HN.out HE2.out)
  obtain rfl : t = ByteArray.mk #[108, 97, 99, 101, 119, 111, 114, 107] := by
   apply ByteArray.ext; apply Array.toList_inj.1; rw [hnm]; rfl
  have q1 := zk6 (ByteArray.mk #[108, 97, 99, 101, 119, 111, 114, 107])
  have HNM := hid (show h.data.toList.take 8 = zd4 from by rw [← HTK.out.2.1]; rfl)
  clear hnm
  go_wp2_with fail
  refine (zfn (w.heap.size + 1) s1 false 4096 w2 hg2 (by omega)).mono ?_
  rintro e w3 ⟨d, s2, b2, rfl, hd, hg3, hO3, n1⟩
  have hR3 := hR2.only hO3 neR
  have hB3 := hlow hB2 hO3
  go_wp2_with fail
  refine (zfn (w.heap.size + 1) s2 b2 1048576 w3 hg3 (by omega)).mono ?_
  rintro e w4 ⟨z, s3, b3, rfl, hzb, hg4, hO4, n2⟩
  have hR4 := hR3.only hO4 neR
  have hB4 := hlow hB3 hO4
  have hg4' : za w4 (w.heap.size + 1) 170 #[.string s3, .bool b3] := hg4
  have hgl := hg4'.lt
  have hgT : RdIs (w4.alloc (.cells #[.int .i64 (d : Nat), .int .i64 (z : Nat), .slice none 0 0] 107)) (w.heap.size + 1) s3 b3 := hg4'.alloc _
  have hRT := hR4.alloc (.cells #[.int .i64 (d : Nat), .int .i64 (z : Nat), .slice none 0 0] 107)
  have hBT := hB4.alloc hB4.size (.cells #[.int .i64 (d : Nat), .int .i64 (z : Nat), .slice none 0 0] 107)
  have hXT := za.new w4 107 #[.int .i64 (d : Nat), .int .i64 (z : Nat), .slice none 0 0]
  obtain ⟨T, hTe⟩ : ∃ T, T = w4.heap.size := ⟨_, rfl⟩
  clear r0 r1 r2 f0 f1 f2 hg2 hR2 hB2 hg3 hR3 hB3 hO3 hR4 hB4 hO4 hg4
  go_wp2_with fail
  rw [← hTe] at hXT ⊢
  have neT : T ≠ w.heap.size + 1 := by omega
  have neTR : T ≠ w.heap.size := by omega
  have hTw : w.heap.size ≤ T := by omega
  clear hg4' hgl hTe
  generalize w4.alloc (.cells #[.int .i64 (d : Nat), .int .i64 (z : Nat), .slice none 0 0] 107) = W4 at *
  refine (zfn (w.heap.size + 1) s3 b3 4096 W4 hgT (by omega)).mono ?_
  rintro e w5 ⟨K, s4, b4, rfl, hK, hg5, hO5, n3⟩
  have hR5 := hRT.only hO5 neR
  have hX5 := hXT.only hO5 neT
  have hB5 := hlow hBT hO5
  have HI0 := hid (z4f HNM.out HTK.out.2.2 n1 n2 n3)
  have hz5 := hB5.size
  have hR5l := hR5.lt
  have hg5l := za.lt hg5
  have hX5l := hX5.lt
  have HD := hid (And.intro hd hzb)
  clear hgT hRT hBT hXT hO5 n1 n2 n3 hd hzb HTK HNM hB1
  have HENT := hid (show ∀ (S : ByteArray) (B : Bool) (W : World), RdIs W (w.heap.size + 1) S B → Calls Tryz.prog 119 #[.pointer (some ⟨w.heap.size + 1, 0, none⟩)] W fun e w' => ∃ x s' b', e = .returned (.agg #[.int .i64 x.a, .int .i64 x.b, .int .i64 x.v, .int .i64 x.p, .string x.s]) ∧ RdIs w' (w.heap.size + 1) s' b' ∧ Only (fun k => k = w.heap.size + 1) W w' ∧ EntR S B x s' b' from fun S B W hW => zvo (w.heap.size + 1) S B W hW)
  have HFM := hid (fun A c es W (hl : Lst W A (entC es)) (hn : es.length ≤ 1000000) => zjo (d : Nat) (z : Nat) A c es W hl hn)
  have HY := hid (show ∀ w' es A c, Below w.heap.size w w' → Lst w' A (entC es) → za1 s.data.toList ⟨(d : Nat), (z : Nat), es⟩ → zfp s.data.toList w (.returned (.tuple #[.agg #[.int .i64 (d : Nat), .int .i64 (z : Nat), .slice A es.length c], .int .i64 0])) w' from fun w' es A c h1 h2 h3 => ⟨h1, .inl ⟨_, A, c, rfl, h2, h3⟩⟩)
  have HNO := hid (show zeo h.data.toList = none → ∀ t, ¬ za1 s.data.toList t from fun e t ht => by have := (zep.1 ((HT3.out t).1 ht)).1; rw [e] at this; cases this)
  have HSO := hid (show ∀ u r, zeo h.data.toList = some (u, r) → (¬ (r = [] ∧ zae u) → ∀ t, ¬ za1 s.data.toList t) ∧ (r = [] → zae u → za1 s.data.toList u) from fun u r e => ⟨fun hx t ht => by
   have h1 := zep.1 ((HT3.out t).1 ht)
   rw [e] at h1
   obtain ⟨rfl, rfl⟩ := Prod.mk.inj (Option.some.inj h1.1)
   exact hx ⟨rfl, h1.2⟩, fun hr hf => (HT3.out u).2 (zep.2 ⟨by rw [e, hr], hf⟩)⟩)
  obtain ⟨i0, hi, hz0, hz1, hz2⟩ := info_parts Tryz.infoEnt
  clear HT3 HHS
  generalize zeo h.data.toList = hp at *
  go_wp2_with fail
  go_loopw [7] (fun kv wr => ∃ (kk : Nat) (es : List EntI) (s' : ByteArray) (b' : Bool) (A : Option Addr) (c : Nat), kv = .int .i64 (kk : Nat) ∧ es.length + kk = K ∧ RdIs wr (w.heap.size + 1) s' b' ∧ za wr T 107 #[.int .i64 (d : Nat), .int .i64 (z : Nat), .slice A es.length c] ∧ wr.ownsRow w5.heap.size 113 5 (.slice A es.length c) es.length (entC es) ∧ za wr w.heap.size 107 #[.int .i64 0, .int .i64 0, .slice none 0 0] ∧ Below w.heap.size w wr ∧ w5.heap.size ≤ wr.heap.size ∧ Hid ((b' = false ∧ hp = zgy d z kk es s'.data.toList) ∨ (b' = true ∧ hp = none))) (fun kv _ => (intOf kv).toNat)
  case atStart => exact ⟨K, [], s4, b4, none, 0, rfl, by simp, hg5, hX5, World.ownsRow_nil _ _ _ _, hR5, hB5, Nat.le_refl _, HI0⟩
  case round =>
   obtain ⟨kk, es, s', b', A, c, rfl, hlen, hgr, hXr, hown, hRr, hBr, hzr, hP⟩ := hrel
   clear hg5 hX5 hR5 hB5 HI0
   have hgr' : za wr (w.heap.size + 1) 170 #[.string s', .bool b'] := hgr
   have g0 := hgr'.cell 0
   have g1 := hgr'.cell 1
   have t0 := hXr.cell 0
   have t1 := hXr.cell 1
   have t2 := hXr.cell 2
   have r0 := hRr.cell 0
   have r1 := hRr.cell 1
   have r2 := hRr.cell 2
   have f0 := hRr.frozen 0
   have f1 := hRr.frozen 1
   have f2 := hRr.frozen 2
   have hl := zdq hown (by omega)
   cases b' with
   | true =>
     have HN := hid (HNO.out (by
      rcases hP.out with ⟨hx, _⟩ | ⟨_, hx⟩
      ·cases hx
      ·exact hx))
     clear hP
     rcases Nat.eq_zero_or_pos kk with h0 | h0
     ·subst h0
      go_wp2_with fail
      (try simp only [Exit.inBlock, Exit.then])
      refine bodyPost_ret (zw rfl _ _ w.heap.size _ #[.int .i64 0, .int .i64 0, .slice none 0 0] rfl (zba hRr _ _ _) za8 zbh) rfl ?_
      exact HF.out _ 3 (zat hBr (Nat.le_refl _) _ _ _) HN.out HE2.out
     ·have hk0 : (0 : Int) < (kk : Int) := by omega
      have hk1 : ¬ (kk : Int) ≤ 0 := by omega
      go_wp2_with fail
      (try simp only [Exit.inBlock, Exit.then])
      refine bodyPost_ret (zw rfl _ _ w.heap.size _ #[.int .i64 0, .int .i64 0, .slice none 0 0] rfl (zba hRr _ _ _) za8 zbh) rfl ?_
      exact HF.out _ 3 (zat hBr (Nat.le_refl _) _ _ _) HN.out HE2.out
   | false =>
     have hP2 : hp = zgy d z kk es s'.data.toList := by
      rcases hP.out with ⟨_, hx⟩ | ⟨hx, _⟩
      ·exact hx
      ·cases hx
     clear hP
     rcases Nat.eq_zero_or_pos kk with h0 | h0
     ·subst h0
      have HS := hid (HSO.out ⟨(d : Nat), (z : Nat), es⟩ s'.data.toList (by rw [hP2]; unfold zgy zd5; simp))
      clear hP2 hgr'
      by_cases hs0 : s'.size = 0
      case neg =>
       have hse := zog hs0
       have HN := hid (HS.out.1 (fun hx => hs0 (by rw [← zan, hx.1]; rfl)))
       go_wp2_with fail
       (try simp only [Exit.inBlock, Exit.then])
       refine bodyPost_ret (zw rfl _ _ w.heap.size _ #[.int .i64 0, .int .i64 0, .slice none 0 0] rfl (zba hRr _ _ _) za8 zbh) rfl ?_
       exact HF.out _ 3 (zat hBr (Nat.le_refl _) _ _ _) HN.out HE2.out
      obtain rfl := zpj hs0
      go_wp2_with fail
      refine (HFM.out A c es wr hl (by omega)).mono ?_
      rintro e w8 ⟨ok, rfl, hok, hB8⟩
      have hR8 := hRr.below hB8
      have hX8 := hXr.below hB8
      have hl8 := hl.below hB8
      have hB08 := hBr.trans (hB8.mono hBr.size)
      have t0 := hX8.cell 0
      have t1 := hX8.cell 1
      have t2 := hX8.cell 2
      have r0 := hR8.cell 0
      have r1 := hR8.cell 1
      have r2 := hR8.cell 2
      have f0 := hR8.frozen 0
      have f1 := hR8.frozen 1
      have f2 := hR8.frozen 2
      cases ok with
      | false =>
        have HN := hid (HS.out.1 (fun hx => by have := hok.2 hx.2; cases this))
        clear hok
        go_wp2_with fail
        (try simp only [Exit.inBlock, Exit.then])
        refine bodyPost_ret (zw rfl _ _ w.heap.size _ #[.int .i64 0, .int .i64 0, .slice none 0 0] rfl (zba hR8 _ _ _) za8 zbh) rfl ?_
        exact HF.out _ 3 (zat hB08 (Nat.le_refl _) _ _ _) HN.out HE2.out
      | true =>
        have HYY := hid (HS.out.2 (by first | rfl | trivial) (hok.1 rfl))
        clear hok
        go_wp2_with fail
        (try simp only [Exit.inBlock, Exit.then])
        refine bodyPost_ret (zw rfl _ _ w.heap.size _ #[.int .i64 (d : Nat), .int .i64 (z : Nat), .slice A es.length c] rfl (zba hR8 _ _ _) za8 zbh) rfl ?_
        have hnr : ∀ ad, A = some ad → ad.block ≠ w.heap.size := fun ad e => by have := zk5 hown ad e; omega
        exact HY.out _ es A c (zat hB08 (Nat.le_refl _) _ _ _) (((hl8.setCell (p := ⟨w.heap.size, 0, none⟩) hnr _).setCell (p := ⟨w.heap.size, 1, none⟩) hnr _).setCell (p := ⟨w.heap.size, 2, none⟩) hnr _) HYY.out
     ·obtain ⟨m, rfl⟩ : ∃ m, kk = m + 1 := ⟨kk - 1, by omega⟩
      have hk0 : (0 : Int) < ((m + 1 : Nat) : Int) := by omega
      have hk1 : ¬ ((m + 1 : Nat) : Int) ≤ 0 := by omega
      have hk2 : ((m + 1 : Nat) : Int) - 1 = (m : Int) := by omega
      have HP2 := hid hP2
      clear hP2
      go_wp2_with fail
      have hlt3 : ∀ j, (Value.slice A es.length c).ownBlock = some j → w5.heap.size ≤ j := fun j hj => (hown.lt j hj).1
      have hneG : ∀ j, (Value.slice A es.length c).ownBlock = some j → ¬ (j = w.heap.size + 1) := fun j hj e => by have := hlt3 j hj; omega
      have hneT : ∀ j, (Value.slice A es.length c).ownBlock = some j → ¬ (T = j) := fun j hj e => by have := hlt3 j hj; omega
      have hneR : ∀ j, (Value.slice A es.length c).ownBlock = some j → ¬ (w.heap.size = j) := fun j hj e => by have := hlt3 j hj; omega
      have hTl := hXr.lt
      have hRl := hRr.lt
      have hGl := hgr'.lt
      have hes : es.length + 1 ≤ 4096 := by omega
      go_region_law (first
       | (refine zca (o := ⟨some 55, _, _, _, _, _⟩) rfl 119 #[.pointer (some ⟨w.heap.size + 1, 0, none⟩)] (by go_simp) ?_; refine (HENT.out s' false _ (by exact hgr)).mono ?_; rintro e w6 ⟨x, s6, b6, rfl, hg6, hO6, hE⟩;
          have hX6 : za w6 T 107 #[.int .i64 (d : Nat), .int .i64 (z : Nat), .slice A es.length c] := za.only (w := wr.drew) hXr hO6 neT;
          have hR6 : za w6 w.heap.size 107 #[.int .i64 0, .int .i64 0, .slice none 0 0] := za.only (w := wr.drew) hRr hO6 neR;
          have t6 := hX6.cell 2;
          have hT6l := hX6.lt;
          have y6 : ∀ o : Obj, (w6.alloc o).cell? ⟨T, 2, none⟩ = some (.slice A es.length c) := fun o => (hX6.alloc o).cell 2;
          have hz6 : wr.heap.size ≤ w6.heap.size := hO6.size;
          have hown6 : w6.ownsRow w5.heap.size 113 5 (.slice A es.length c) es.length (entC es) := zac (w := wr.drew) (S := fun k => k = w.heap.size + 1) hown hO6 hneG;
          refine ⟨_, rfl, ?_⟩)
       | (refine step_append_lies _ rfl (.tmp 53) (.tmp 56) _ rfl w5.heap.size 113 i0 _ 5 48 Tryz.underlying105 hi hz0 hz1 hz2 rfl (by omega) (.slice A es.length c) es.length (entC es) (by rfl) (by exact hown6.alloc _) ⟨w6.heap.size, 0, none⟩ 1 1 [.int .i64 x.a, .int .i64 x.b, .int .i64 x.v, .int .i64 x.p, .string x.s] (by rfl) (by rfl) (by exact zdi _ _ _ _ _ _ _ _ rfl) (by simp [Value.oneCell']) (by omega) (by simp only [maxLen]; omega) (by omega) (by simp; omega) (w6.heap.size + 1) (by simp) ?_;
          intro g7 c7 w7 hown7 hgr7 hat7 hlt7;
          have hX7 : za w7 T 107 #[.int .i64 (d : Nat), .int .i64 (z : Nat), .slice A es.length c] := (hX6.alloc _).kept (hgr7.block T (by simp; omega) (fun e => hneT _ e.symm rfl));
          have t7 := hX7.cell 2;
          have g7f := hX7.frozen 2))
      all_goals
       have hR7 : za w7 w.heap.size 107 #[.int .i64 0, .int .i64 0, .slice none 0 0] := (hR6.alloc _).kept (hgr7.block w.heap.size (by simp; omega) (fun e => hneR _ e.symm rfl))
       have hg7 : RdIs w7 (w.heap.size + 1) s6 b6 := (za.alloc hg6 _).kept (hgr7.block (w.heap.size + 1) (by simp; omega) (fun e => hneG _ e.symm rfl))
       have hB6 : Below w.heap.size w w6 := hlow (W := wr.drew) hBr.drew hO6
       have hB7 := (hB6.alloc hB6.size (.cells #[.int .i64 x.a, .int .i64 x.b, .int .i64 x.v, .int .i64 x.p, .string x.s] 113)).grown hgr7 (by simp; omega) (fun k hk => by have := hlt3 k hk; omega)
       have hnb7 : (Value.slice (some ⟨g7, 0, none⟩) (es.length + 1) c7).ownBlock ≠ some T := by
        intro e
        have e2 : some g7 = some T := e
        injection e2 with e2
        subst e2
        rcases hat7 with h7 | h7
        ·exact hneT _ h7 rfl
        ·omega
       have hown8 := zac hown7 ((Only.refl (fun i => i = T) w7).setCell (p := ⟨T, 2, none⟩) (.inl rfl) (.slice (some ⟨g7, 0, none⟩) (es.length + 1) c7)) (fun k hk e => hnb7 (by rw [hk, e]))
       have hz7 := hgr7.size
       go_wp2
       go_roundw
       case rel =>
        refine ⟨m, es ++ [x], s6, b6, some ⟨g7, 0, none⟩, c7, by first | rfl | go_num, by rw [List.length_append]; simp; omega, za.far hg7 (p := ⟨T, 2, none⟩) (Ne.symm neT) _, ?_, ?_, hR7.far (p := ⟨T, 2, none⟩) (Ne.symm neTR) _, hB7.setCell (p := ⟨T, 2, none⟩) (by simp; omega) _, ?_, hid ?_⟩
        ·rw [List.length_append]; exact hX7.put 2 _
        ·rw [List.length_append, zgj]; exact hown8
        ·have : w6.heap.size + 1 ≤ w7.heap.size := by have := hz7; simp at this; omega
         simp; omega
        ·rcases hE with ⟨_, rfl, he⟩ | ⟨he, rfl⟩
         ·exact .inl ⟨rfl, by rw [HP2.out, z1b he]⟩
         ·rcases he with he | he
          ·cases he
          ·exact .inr ⟨rfl, by rw [HP2.out, zyk he]⟩
       case measure => simp [intOf] <;> omega
end Go.Proofs.YtgpbpgpolpakjaaGreatDoor
