/- Proof text. -/
import Derived.Test.YtgpbpgpolpakjaaGreatDoorLoadP
import Derived.Test.YtgpbpgpolpakjaaGreatDoorSemiX
import Derived.Test.YtgpbpgpolpakjaaGreatDoorTabG
import Derived.Deep.RegionLaw
set_option maxHeartbeats 8000000
set_option linter.unusedVariables false
set_option linter.unusedSimpArgs false
set_option maxRecDepth 100000
namespace Go.Proofs.YtgpbpgpolpakjaaGreatDoor
open Go.RowKit Go.Shelf L
def zjg (s : ByteArray) (r : RecN) (x : EntI) (w : World) (e : Ending) (w' : World) : Prop :=
 Below w.heap.size w w' ∧ ((∃ q, e = .returned (.tuple #[.pointer q, .bool true]) ∧ x = recE s r ∧ (r.v = 1 → ∃ gi, q = some ⟨gi, 0, none⟩ ∧ zbo w' gi (s.extract r.a r.b)) ∧ (r.v ≠ 1 → q = none)) ∨
  (e = .returned (.tuple #[.pointer none, .bool false]) ∧ x ≠ recE s r))
theorem zyo (s : ByteArray) (deep : Nat) (r : RecN) (x : EntI) (w : World) (hr : r ∈ recs (nb s) deep) (hs : s.size ≤ 4096) (hd : deep ≤ 4096) (hx : x.v = 1 ∨ x.s.size = 0) (hxs : x.s.size ≤ 1450) (hT : Tab w) :
  Calls Tryz.prog 69 #[.string s, .agg #[.int .i64 (r.a : Nat), .int .i64 (r.b : Nat), .int .i64 (r.v : Nat), .int .i64 (r.p : Nat)], .agg #[.int .i64 x.a, .int .i64 x.b, .int .i64 x.v, .int .i64 x.p, .string x.s]] w (zjg s r x w) := by
 have hok := zhf hr hs
 have HNB := hid (fun a b => zgi s a b)
 have HN := hid (show ∀ w', Below w.heap.size w w' → x ≠ recE s r → zjg s r x w (.returned (.tuple #[.pointer none, .bool false])) w' from fun w' h1 h2 => ⟨h1, .inr ⟨rfl, h2⟩⟩)
 have HY := hid (show ∀ w' q, Below w.heap.size w w' → x = recE s r → (r.v = 1 → ∃ gi, q = some ⟨gi, 0, none⟩ ∧ zbo w' gi (s.extract r.a r.b)) → (r.v ≠ 1 → q = none) → zjg s r x w (.returned (.tuple #[.pointer q, .bool true])) w' from fun w' q h1 h2 h3 h4 => ⟨h1, .inl ⟨q, rfl, h2, h3, h4⟩⟩)
 have HTX := hid (fun a b v p W => zof s a b (.int .i64 v) (.int .i64 p) rfl rfl W (by omega))
 have HEQ := hid (show ∀ (a b v p : Int), a = (r.a : Nat) → b = (r.b : Nat) → v = (r.v : Nat) → p = (r.p : Nat) → ((⟨a, b, v, p, x.s⟩ : EntI) = recE s r ↔ x.s = idxOf s r) from fun a b v p ha hb hv hp => by
  unfold recE
  constructor
  ·intro e; injection e
  ·intro e; rw [ha, hb, hv, hp, e])
 have HNE := hid (show ∀ (a b v p : Int), (⟨a, b, v, p, x.s⟩ : EntI) = recE s r → a = (r.a : Nat) ∧ b = (r.b : Nat) ∧ v = (r.v : Nat) ∧ p = (r.p : Nat) from fun a b v p e => by
  unfold recE at e
  injection e with e1 e2 e3 e4
  exact ⟨e1, e2, e3, e4⟩)
 obtain ⟨xa, xb, xv, xp, xs⟩ := x
 obtain ⟨ra, rb, rv, rp⟩ := r
 dsimp only at *
 obtain ⟨m1, m2, m3, m4, m5, m6, m7⟩ := hok
 have hlo := zua s.size ra (by omega)
 have hhi := z1a s.size ra rb m1 m2
 have HT1 := hid (fun W => HTX.out (ra : Nat) (rb : Nat) (rv : Nat) (rp : Nat) W)
 rw [hlo, hhi] at HT1
 have HEN := hid (fun W => zjq (ra : Nat) (rb : Nat) (rv : Nat) (rp : Nat) W)
 clear hlo hhi HTX
 have hB1 : Below w.heap.size w (w.alloc (.cells #[.int .i64 (ra : Nat), .int .i64 (rb : Nat), .int .i64 (rv : Nat), .int .i64 (rp : Nat)] 96)) := (Below.refl _ _).alloc (Nat.le_refl _) _
 have hR1 := za.new w 96 #[.int .i64 (ra : Nat), .int .i64 (rb : Nat), .int .i64 (rv : Nat), .int .i64 (rp : Nat)]
 have hz1 : (w.alloc (.cells #[.int .i64 (ra : Nat), .int .i64 (rb : Nat), .int .i64 (rv : Nat), .int .i64 (rp : Nat)] 96)).heap.size = w.heap.size + 1 := by simp
 have hX2 := za.new (w.alloc (.cells #[.int .i64 (ra : Nat), .int .i64 (rb : Nat), .int .i64 (rv : Nat), .int .i64 (rp : Nat)] 96)) 113 #[.int .i64 xa, .int .i64 xb, .int .i64 xv, .int .i64 xp, .string xs]
 rw [hz1] at hX2
 have hR2 := hR1.alloc (.cells #[.int .i64 xa, .int .i64 xb, .int .i64 xv, .int .i64 xp, .string xs] 113)
 have hB2 := hB1.alloc (by rw [hz1]; omega) (.cells #[.int .i64 xa, .int .i64 xb, .int .i64 xv, .int .i64 xp, .string xs] 113)
 have r0 := hR2.cell 0
 have r1 := hR2.cell 1
 have r2 := hR2.cell 2
 have r3 := hR2.cell 3
 clear hB1 hR1 hz1
 go_enter Tryz.func69, Tryz.ntmps69
 go_wp2_with fail
 generalize ((w.alloc (.cells #[.int .i64 (ra : Nat), .int .i64 (rb : Nat), .int .i64 (rv : Nat), .int .i64 (rp : Nat)] 96)).alloc (.cells #[.int .i64 xa, .int .i64 xb, .int .i64 xv, .int .i64 xp, .string xs] 113)) = W2 at *
 refine (HEN.out _).mono ?_
 rintro e w3 ⟨rfl, hB3⟩
 have hX3 := hX2.below hB3
 have hR3 := hR2.below hB3
 have hB03 := hB2.trans (hB3.mono hB2.size)
 clear hX2 hR2 hB2 hB3 r0 r1 r2 r3
 have hz3 := hB03.size
 have hXl := hX3.lt
 have hX4 := hX3.alloc (.cells #[.int .i64 (ra : Nat), .int .i64 (rb : Nat), .int .i64 (rv : Nat), .int .i64 (rp : Nat), .string ⟨#[]⟩] 113)
 have x4 := hX4.cell 4
 have hX5 := hX3.alloc (.cells #[.int .i64 (ra : Nat), .int .i64 (rb : Nat), .int .i64 (rv : Nat), .int .i64 (rp : Nat), .string xs] 113)
 have hR5 := hR3.alloc (.cells #[.int .i64 (ra : Nat), .int .i64 (rb : Nat), .int .i64 (rv : Nat), .int .i64 (rp : Nat), .string xs] 113)
 have hB5 := hB03.alloc hz3 (.cells #[.int .i64 (ra : Nat), .int .i64 (rb : Nat), .int .i64 (rv : Nat), .int .i64 (rp : Nat), .string xs] 113)
 have c0 := hX5.cell 0
 have c1 := hX5.cell 1
 have c2 := hX5.cell 2
 have c3 := hX5.cell 3
 have c4 := hX5.cell 4
 by_cases hall : xa = (ra : Nat) ∧ xb = (rb : Nat) ∧ xv = (rv : Nat) ∧ xp = (rp : Nat)
 case neg =>
  have HNN := hid (show (⟨xa, xb, xv, xp, xs⟩ : EntI) ≠ recE s ⟨ra, rb, rv, rp⟩ from fun e => hall (HNE.out _ _ _ _ e))
  go_wp2_with fail
  all_goals go_ret2
  all_goals exact HN.out _ hB5 HNN.out
 obtain ⟨rfl, rfl, rfl, rfl⟩ := hall
 have HE := hid (HEQ.out _ _ _ _ rfl rfl rfl rfl)
 have HR5 := hid hR5
 have v2 := hR5.cell 2
 have hsame := zk6 xs
 clear HEQ HNE hR5
 by_cases hv : rv = 1
 case neg =>
  have hvI : ¬ ((rv : Nat) : Int) = 1 := by omega
  have hvb : (((rv : Nat) : Int) != 1) = true := by rw [bne_iff_ne]; exact hvI
  have HV := hid hv
  have HXE := hid (show (⟨(ra : Nat), (rb : Nat), (rv : Nat), (rp : Nat), xs⟩ : EntI) = recE s ⟨ra, rb, rv, rp⟩ from HE.out.2 (by
   have h0 : xs.size = 0 := by
    rcases hx with hx | hx
    ·exact absurd hx hvI
    ·exact hx
   unfold idxOf
   rw [if_neg hv]; exact zpj h0))
  clear hx hv
  go_wp2_with fail
  go_ret2
  exact HY.out _ none hB5 HXE.out (fun h => absurd h HV.out) (fun _ => rfl)
 have hlook := m6 hv hd
 have HV := hid hv
 have hvb : (((rv : Nat) : Int) != 1) = false := by rw [hv]; rfl
 have hvc : (((rv : Nat) : Int) == 1) = true := by rw [hv]; rfl
 have hvd : decide (((rv : Nat) : Int) = 1) = true := decide_eq_true (by omega)
 have HXD := hid (show idxOf s ⟨ra, rb, rv, rp⟩ = idxS (nb (s.extract ra rb)) from by unfold idxOf; rw [if_pos hv, HNB.out]; rfl)
 rw [HXD.out] at HE
 have HLD := hid (fun W hW => zt3 (s.extract ra rb) xs W (by rw [HNB.out]; exact hlook) (by rw [HNB.out, zah]; have := zbg (sub_ (nb s) ra rb); unfold sub_ at *; omega) hW (by omega) (fun h => by omega))
 unfold zhd at HLD
 have HGD := hid (show ∃ m B R, zaw (idxS (nb (s.extract ra rb))).data.toList m B R from by
  have hl := zks (l := nb (s.extract ra rb)) (by rw [HNB.out]; exact hlook)
  exact ⟨_, _, _, zqp hl.1 hl.2 (by rw [HNB.out, zah]; have := zbg (sub_ (nb s) ra rb); unfold sub_ at *; omega)⟩)
 have c5 := HR5.out.cell 0
 have c6 := HR5.out.cell 1
 have c7 := HR5.out.cell 3
 clear hv hx hlook m6 m7
 go_wp2_with fail
 generalize (w3.alloc (.cells #[.int .i64 (ra : Nat), .int .i64 (rb : Nat), .int .i64 (rv : Nat), .int .i64 (rp : Nat), .string xs] 113)) = w5 at *
 have hz5 := hB5.size
 have hT5 := hT.below hB5
 go_region_law (first
  | (refine zca (o := ⟨some 27, _, _, _, _, _⟩) rfl 61 #[.string s, .agg #[.int .i64 (ra : Nat), .int .i64 (rb : Nat), .int .i64 (rv : Nat), .int .i64 (rp : Nat)]] (by go_simp) ?_; refine (HT1.out _).mono ?_; rintro e w6 ⟨rfl, hB6⟩;
     have hB56 : Below w5.heap.size w5 w6 := (Below.refl w5.heap.size w5).drew.trans hB6;
     have hX6 := hX5.below hB56;
     have cc4 := hX6.cell 4;
     have hB06 := hB5.trans (hB56.mono hz5);
     have hT6 := hT.below hB06;
     refine ⟨_, rfl, ?_⟩)
  | (refine zca (o := ⟨some 30, _, _, _, _, _⟩) rfl 10 #[.string (s.extract ra rb), .string xs] (by go_simp) ?_; refine (HLD.out _ hT6).mono ?_; rintro e w7 ⟨hB7, hres⟩;
     have hB07 := hB06.trans (hB7.mono hB06.size);
     have HRES : ∃ q k, e = .returned (.tuple #[.pointer q, .int .i64 k]) ∧ ((k = 0 ∧ ∃ gi, q = some ⟨gi, 0, none⟩ ∧ zbo w7 gi (s.extract ra rb) ∧ xs = idxS (nb (s.extract ra rb))) ∨ (k ≠ 0 ∧ q = none ∧ xs ≠ idxS (nb (s.extract ra rb)))) := (by
      rcases hres with ⟨gi, rfl, hi, hxe⟩ | ⟨rfl, hno⟩ | ⟨rfl, _, hne⟩
      ·exact ⟨_, 0, rfl, .inl ⟨rfl, gi, rfl, hi, hxe⟩⟩
      ·exact ⟨_, 3, rfl, .inr ⟨by omega, rfl, fun e => by
        obtain ⟨m, B, R, hgd⟩ := HGD.out
        exact hno m B R (by rw [e]; exact hgd)⟩⟩
      ·exact ⟨_, 12, rfl, .inr ⟨by omega, rfl, hne⟩⟩);
     obtain ⟨q, k, rfl, hk⟩ := HRES;
     refine ⟨_, rfl, ?_⟩))
 all_goals
  rcases hk with ⟨rfl, gi, rfl, hix, hxe⟩ | ⟨hk0, rfl, hxne⟩
  ·go_wp2_with fail
   go_ret2
   exact HY.out _ _ hB07 (HE.out.2 hxe) (fun _ => ⟨gi, rfl, hix⟩) (fun h => absurd HV.out h)
  ·have hkb : (k == 0) = false := by rw [beq_eq_false_iff_ne]; exact hk0
   have hkd : decide (k = 0) = false := decide_eq_false hk0
   go_wp2_with fail
   go_ret2
   exact HN.out _ hB07 (fun e => hxne (HE.out.1 e))
def zhg (s b : ByteArray) (w : World) (e : Ending) (w' : World) : Prop :=
 Below w.heap.size w w' ∧ ((∃ g deep, e = .returned (.tuple #[.pointer (some ⟨g, 0, none⟩), .int .i64 0]) ∧ 1 ≤ deep ∧ deep ≤ 4096 ∧ zc0 w' g s deep ∧ za1 b.data.toList (tblS s deep)) ∨
  (e = .returned (.tuple #[.pointer none, .int .i64 (zb8 b.data.toList : Nat)]) ∧ ∀ t, ¬ za1 b.data.toList t) ∨
  (e = .returned (.tuple #[.pointer none, .int .i64 12]) ∧ ∃ t, za1 b.data.toList t ∧ t ≠ tblS s t.deep.toNat))
theorem L.z8q {t : TabN} {s : ByteArray} {d : Nat} (h1 : t.deep = (d : Nat)) (h2 : t.size = (s.size : Nat)) (h3 : t.es.length = (recs (nb s) d).length) (h4 : ∀ (j : Nat) (h : j < t.es.length) (h' : j < (recs (nb s) d).length), t.es[j] = recE s (recs (nb s) d)[j]) : t = tblS s d := by
 cases t with
 | mk a b es =>
   dsimp only at *
   unfold tblS
   rw [h1, h2]
   congr 1
   apply List.ext_getElem
   ·rw [List.length_map]; exact h3
   ·intro i hi hi'
    rw [List.getElem_map]
    exact h4 i hi (by rw [List.length_map] at hi'; exact hi')
theorem zk9 (l : List UInt8) : zb8 l ≠ 0 := by
 unfold zb8
 split
 ·omega
 ·split <;> omega
theorem zyp (s b : ByteArray) (w : World) (hs : s.size ≤ 4096) (hb : b.size ≤ 1000000) (hT : Tab w) (hbs : ∀ t, za1 b.data.toList t → ∀ x ∈ t.es, x.s.size ≤ 1450) :
  Calls Tryz.prog 20 #[.string s, .string b] w (zhg s b w) := by
 obtain ⟨i0, hi, iz0, iz1, iz2⟩ := info_parts Tryz.infoPtr
 have hsp := zfo (nb s)
 rw [zf] at hsp
 have LI := hid (fun W => (zqt s W (by omega)).mono (R' := fun e w' => ∃ A c, e = .returned (.tuple #[.slice A (spans (nb s)).length c, .int .i64 0]) ∧ Below W.heap.size W w') (fun e w' ⟨h3, h4⟩ => by
  rcases h3 with ⟨_, A, c, h5, h6⟩ | ⟨h5, _⟩
  ·exact ⟨A, c, h5, h4⟩
  ·omega))
 have RD := hid (fun W => zvs b W hb)
 have HF := hid (show ∀ w' (k : Nat), Below w.heap.size w w' → (∀ t, ¬ za1 b.data.toList t) → k = zb8 b.data.toList → zhg s b w (.returned (.tuple #[.pointer none, .int .i64 (k : Nat)])) w' from fun w' k h1 h2 h3 => ⟨h1, .inr (.inl ⟨by rw [h3], h2⟩)⟩)
 have HS := hid (show ∀ w' t, Below w.heap.size w w' → za1 b.data.toList t → t ≠ tblS s t.deep.toNat → zhg s b w (.returned (.tuple #[.pointer none, .int .i64 12])) w' from fun w' t h1 h2 h3 => ⟨h1, .inr (.inr ⟨rfl, t, h2, h3⟩)⟩)
 have HY := hid (show ∀ w' g deep, Below w.heap.size w w' → 1 ≤ deep → deep ≤ 4096 → zc0 w' g s deep → za1 b.data.toList (tblS s deep) → zhg s b w (.returned (.tuple #[.pointer (some ⟨g, 0, none⟩), .int .i64 0])) w' from fun w' g deep h1 h2 h3 h4 h5 => ⟨h1, .inl ⟨g, deep, rfl, h2, h3, h4, h5⟩⟩)
 have HBS := hid hbs
 clear hbs
 unfold zfp at RD
 have HRP := hid (zk9 b.data.toList)
 generalize zb8 b.data.toList = rk at *
 go_enter Tryz.func20, Tryz.ntmps20
 go_wp2_with fail
 refine (LI.out _).mono ?_
 rintro e w1 ⟨A1, c1, rfl, hB1⟩
 go_wp2_with fail
 refine (RD.out _).mono ?_
 rintro e w2 ⟨hB2, ⟨t, At, ct, rfl, hlt, hta⟩ | ⟨rfl, hno⟩⟩
 case inr =>
  have hB12 := hB1.trans (hB2.mono hB1.size)
  have hk0 := HRP.out
  have hkb : ((rk : Int) == 0) = false := by rw [beq_eq_false_iff_ne]; omega
  have hkc : ((rk : Int) != 0) = true := by rw [bne_iff_ne]; omega
  clear hk0 HRP
  go_wp2_with fail
  go_ret2
  exact HF.out _ rk (hB12.alloc hB12.size _) hno rfl
 have hB12 := hB1.trans (hB2.mono hB1.size)
 have HTA := hid hta
 have hf := hta.1
 obtain ⟨f1, f2, f3, f4, f5, f6⟩ := hf
 have HXS := hid (HBS.out t hta)
 clear hta RD LI HBS HF HRP
 obtain ⟨dI, zI, es⟩ := t
 dsimp only at *
 obtain ⟨d, rfl⟩ : ∃ d : Nat, dI = (d : Int) := ⟨dI.toNat, by omega⟩
 obtain ⟨z, rfl⟩ : ∃ z : Nat, zI = (z : Int) := ⟨zI.toNat, by omega⟩
 have hd1 : 1 ≤ d := by omega
 have hd2 : d ≤ 4096 := by omega
 have HGE := hid f6
 have hfew := ze5 (nb s) d
 rw [zf] at hfew
 have HR := hid (fun W => zmb s d W (by omega) hd1 hd2 (by omega))
 have HLK := hid (fun r x W hr hx hxs hTW => zyo s d r x W hr hs hd2 hx hxs hTW)
 have HTE := hid (fun h2 h3 h4 => z8q (t := ⟨(d : Nat), (z : Nat), es⟩) (s := s) (d := d) rfl h2 h3 h4)
 have HNT := hid (show ∀ (t2 : TabN), t2 = ⟨(d : Nat), (z : Nat), es⟩ → t2 = tblS s d → z = s.size ∧ es = (recs (nb s) d).map (recE s) from fun t2 e1 e2 => by
  rw [e1] at e2
  unfold tblS at e2
  injection e2 with _ e3 e4
  exact ⟨by omega, e4⟩)
 have HST := hid (show ∀ w' g Al cl Ai ci ps, za w' g 92 #[.string s, .int .i64 (d : Nat), .slice Al (recs (nb s) d).length cl, .slice Ai (recs (nb s) d).length ci] → Lst w' Al (recC (recs (nb s) d)) → Lst w' Ai (ps.map Value.pointer) → ps.length = (recs (nb s) d).length → zfq w' s (recs (nb s) d) ps → zc0 w' g s d from fun w' g Al cl Ai ci ps a1 a2 a3 a4 a5 => ⟨Al, cl, Ai, ci, ps, a1, a2, a3, a4, a5⟩)
 clear f1 f2 f3 f6
 generalize recs (nb s) d = X at *
 have hXT := za.new w2 107 #[.int .i64 (d : Nat), .int .i64 (z : Nat), .slice At es.length ct]
 have hB13 := hB12.alloc hB12.size (.cells #[.int .i64 (d : Nat), .int .i64 (z : Nat), .slice At es.length ct] 107)
 have hB23 : Below w2.heap.size w2 (w2.alloc (.cells #[.int .i64 (d : Nat), .int .i64 (z : Nat), .slice At es.length ct] 107)) := (Below.refl _ _).alloc (Nat.le_refl _) _
 have hl3 := hlt.below hB23
 have t0 := hXT.cell 0
 clear hlt hB12 hB1 hB2
 go_wp2_with fail
 obtain ⟨T, hTe⟩ : ∃ T, T = w2.heap.size := ⟨_, rfl⟩
 rw [← hTe] at hXT t0 ⊢
 clear hTe hB23
 generalize (w2.alloc (.cells #[.int .i64 (d : Nat), .int .i64 (z : Nat), .slice At es.length ct] 107)) = w3 at *
 refine (HR.out _).mono ?_
 rintro e w4 ⟨Al, cl, rfl, hown4, hB4⟩
 have hX4 := hXT.below hB4
 have hl4 := hl3.below hB4
 have hL4 := zdq hown4 (by omega)
 have hB04 := hB13.trans (hB4.mono hB13.size)
 have t1 := hX4.cell 1
 have t2 := hX4.cell 2
 have t0 := hX4.cell 0
 clear hXT hl3 hB13 hB4 hown4 HR
 by_cases hz : z = s.size
 case neg =>
  have hzb : ((z : Int) != (s.size : Int)) = true := by rw [bne_iff_ne]; omega
  have hzc : ¬ ((z : Int) = (s.size : Int)) := by omega
  go_wp2_with fail
  go_ret2
  exact HS.out _ _ hB04 HTA.out (fun e => hz (HNT.out _ rfl (by simpa using e)).1)
 subst hz
 by_cases hn : es.length = X.length
 case neg =>
  have hzb : ((es.length : Int) != (X.length : Int)) = true := by rw [bne_iff_ne]; omega
  have hzc : ¬ ((es.length : Int) = (X.length : Int)) := by omega
  have hzd : ¬ (es.length = X.length) := hn
  go_wp2_with fail
  go_ret2
  exact HS.out _ _ hB04 HTA.out (fun e => hn (by have := (HNT.out _ rfl (by simpa using e)).2; rw [this, List.length_map]))
 have HNN := hid hn
 have hnb : ((es.length : Int) != (X.length : Int)) = false := by rw [hn]; simp
 have hnc : ((es.length : Int) == (X.length : Int)) = true := by rw [hn]; simp
 have hnd : (es.length == X.length) = true := by rw [hn]; simp
 have hne : decide (es.length = X.length) = true := decide_eq_true hn
 have hnf : decide ((es.length : Int) = (X.length : Int)) = true := decide_eq_true (by omega)
 clear hn
 have hXS := za.new w4 92 #[.string s, .int .i64 (d : Nat), .slice Al X.length cl, .slice none 0 0]
 have hB4S : Below w4.heap.size w4 (w4.alloc (.cells #[.string s, .int .i64 (d : Nat), .slice Al X.length cl, .slice none 0 0] 92)) := (Below.refl _ _).alloc (Nat.le_refl _) _
 have hz4 := hB04.size
 go_wp2_with fail
 generalize w4.alloc (.cells #[.string s, .int .i64 (d : Nat), .slice Al X.length cl, .slice none 0 0] 92) = W5 at *
 obtain ⟨G, hG⟩ : ∃ G, G = w4.heap.size := ⟨_, rfl⟩
 rw [← hG] at hXS hB4S hz4 ⊢
 have hTG : T < G := by have := hX4.lt; omega
 have HKT := hid (show ∀ wr, Below G w4 wr → za wr T 107 #[.int .i64 (d : Nat), .int .i64 (s.size : Nat), .slice At es.length ct] from fun wr h => hX4.below (by rw [← hG]; exact h))
 have HKE := hid (show ∀ wr, Below G w4 wr → Lst wr At (entC es) from fun wr h => hl4.below (by rw [← hG]; exact h))
 have HKR := hid (show ∀ wr, Below G w4 wr → Lst wr Al (recC X) from fun wr h => hL4.below (by rw [← hG]; exact h))
 have HBW := hid (show ∀ wr, Below G w4 wr → Below w.heap.size w wr from fun wr h => hB04.trans (h.mono hz4))
 have hGe : G ≤ w4.heap.size := by omega
 clear hG hX4 hl4 hL4 hB04 t0 t1 t2
 go_loopw [64] (fun iv wr => ∃ (ps : List (Option Addr)) (v : Value), ps.length ≤ X.length ∧ iv = .int .i64 (ps.length : Nat) ∧ za wr G 92 #[.string s, .int .i64 (d : Nat), .slice Al X.length cl, v] ∧ PRow wr (G + 1) v ps ∧ Below G w4 wr ∧ zfq wr s X ps ∧ Hid (∀ (j : Nat) (h : j < es.length) (h' : j < X.length), j < ps.length → es[j] = recE s X[j])) (fun iv _ => X.length - (intOf iv).toNat)
 case atStart => exact ⟨[], _, by simp, rfl, hXS, .inl ⟨rfl, rfl⟩, hB4S, (fun j r hj => by simp at hj), hid (fun j h h' hj => by simp at hj)⟩
 case round =>
  obtain ⟨ps, v, hk, rfl, hX, hP, hB, hOk, hEQ⟩ := hrel
  clear hXS hB4S
  have hz : G ≤ wr.heap.size := by have := hB.size; omega
  have hXl := hX.lt
  have hXT := HKT.out _ hB
  rcases Nat.lt_or_ge ps.length X.length with hlt | hge
  ·have hki : (ps.length : Int) < (X.length : Int) := by omega
   have hke : (ps.length : Int) < (es.length : Int) := by have := HNN.out; omega
   have hk0 : (0 : Int) ≤ (ps.length : Int) := by omega
   have hkW := zg ps.length (by omega)
   have hle : ps.length < es.length := by have := HNN.out; omega
   have hXk : X[ps.length]? = some X[ps.length] := List.getElem?_eq_getElem hlt
   have hge6 := HGE.out ps.length hle
   have hxs6 := HXS.out es[ps.length] (List.getElem_mem hle)
   have hmem := List.getElem_mem hlt
   have HEN := hid (fun (he : es[ps.length] = recE s X[ps.length]) => (show ∀ (j : Nat) (h : j < es.length) (h' : j < X.length), j < ps.length + 1 → es[j] = recE s X[j] from fun j h h' hj => by
    rcases Nat.lt_or_ge j ps.length with h1 | h1
    ·exact hEQ.out j h h' h1
    ·obtain rfl : j = ps.length := by omega
     exact he))
   have HEX := hid (fun (hne : es[ps.length] ≠ recE s X[ps.length]) => (show (⟨(d : Nat), (s.size : Nat), es⟩ : TabN) ≠ tblS s d from fun e => hne (by
    have := (HNT.out _ rfl e).2
    have h2 : es = X.map (recE s) := this
    have h3 := List.getElem_of_eq h2 hle
    rw [h3, List.getElem_map])))
   have HLP := hid (fun W hTW => HLK.out X[ps.length] es[ps.length] W hmem hge6.2.2.2.2.2.2.2.2.2 hxs6 hTW)
   unfold zjg at HLP
   obtain ⟨gl, ol, rfl, q0, q1, q2, q3⟩ := zfg (HKR.out _ hB) hlt
   have hRb : Below G w4 (wr.alloc (.cells #[.int .i64 (X[ps.length].a : Nat), .int .i64 (X[ps.length].b : Nat), .int .i64 (X[ps.length].v : Nat), .int .i64 (X[ps.length].p : Nat)] 96)) := hB.alloc hz _
   have hBa : Below wr.heap.size wr (wr.alloc (.cells #[.int .i64 (X[ps.length].a : Nat), .int .i64 (X[ps.length].b : Nat), .int .i64 (X[ps.length].v : Nat), .int .i64 (X[ps.length].p : Nat)] 96)) := (Below.refl _ _).alloc (Nat.le_refl _) _
   have hRa := za.new wr 96 #[.int .i64 (X[ps.length].a : Nat), .int .i64 (X[ps.length].b : Nat), .int .i64 (X[ps.length].v : Nat), .int .i64 (X[ps.length].p : Nat)]
   obtain ⟨ge_, oe, hAe, hgl, k0, k1, k2, k3, k4⟩ := zdm (HKE.out _ hRb) hle
   subst hAe
   have hXT := HKT.out _ hRb
   have u2 := hXT.cell 2
   have e0 := hRa.cell 0
   have e1 := hRa.cell 1
   have e2 := hRa.cell 2
   have e3 := hRa.cell 3
   clear hge6 hxs6 hmem HGE HXS HNT
   generalize es[ps.length] = x at *
   generalize X[ps.length] = r at *
   obtain ⟨ra, rb, rv, rp⟩ := r
   obtain ⟨xa, xb, xv, xp, xs⟩ := x
   dsimp only at *
   go_wp2_with fail
   generalize (wr.alloc (.cells #[.int .i64 (ra : Nat), .int .i64 (rb : Nat), .int .i64 (rv : Nat), .int .i64 (rp : Nat)] 96)) = w6 at *
   have hT6 := hT.below (HBW.out _ hRb)
   go_region_law (first
    | (refine zca (o := ⟨some 77, _, _, _, _, _⟩) rfl 69 #[.string s, .agg #[.int .i64 (ra : Nat), .int .i64 (rb : Nat), .int .i64 (rv : Nat), .int .i64 (rp : Nat)], .agg #[.int .i64 xa, .int .i64 xb, .int .i64 xv, .int .i64 xp, .string xs]] (by go_simp) ?_; refine (HLP.out w6.drew (by exact hT6)).mono ?_; rintro e w7 ⟨hB7, hres⟩;
       have hB67 : Below w6.heap.size w6 w7 := (Below.refl w6.heap.size w6).drew.trans hB7;
       have HRES : ∃ q okb, e = .returned (.tuple #[.pointer q, .bool okb]) ∧ ((okb = true ∧ (⟨xa, xb, xv, xp, xs⟩ : EntI) = recE s ⟨ra, rb, rv, rp⟩ ∧ (rv = 1 → ∃ gi, q = some ⟨gi, 0, none⟩ ∧ zbo w7 gi (s.extract ra rb)) ∧ (rv ≠ 1 → q = none)) ∨ (okb = false ∧ (⟨xa, xb, xv, xp, xs⟩ : EntI) ≠ recE s ⟨ra, rb, rv, rp⟩)) := (by
        rcases hres with ⟨q, rfl, c1, c2, c3⟩ | ⟨rfl, c1⟩
        ·exact ⟨q, true, rfl, .inl ⟨rfl, c1, c2, c3⟩⟩
        ·exact ⟨none, false, rfl, .inr ⟨rfl, c1⟩⟩);
       obtain ⟨q, okb, rfl, hk7⟩ := HRES;
       refine ⟨_, rfl, ?_⟩))
   all_goals
    have hB5 : Below wr.heap.size wr w7 := hBa.trans (hB67.mono hBa.size)
    have hB05 := hB.trans (hB5.mono hz)
    have hz5 : G ≤ w7.heap.size := by have := hB05.size; omega
    rcases hk7 with ⟨rfl, hxe, hq1, hq0⟩ | ⟨rfl, hxne⟩
    ·have HQ := hid (And.intro hq1 hq0)
     have HE2 := hid (HEN.out hxe)
     have hX5 : za w7 G 92 #[.string s, .int .i64 (d : Nat), .slice (some ⟨gl, ol, none⟩) X.length cl, v] := hX.below hB5
     have hP5 := hP.below hB5
     have x3 := hX5.cell 3
     obtain ⟨Av, cv, rfl⟩ := hP5.slice
     have hbs := hP5.lt
     clear hxe hq1 hq0 HEX HLP hEQ
     go_wp2_with (at_builtin
                  go_must (refine zer rfl (.tmp 86) (.tmp 88) 90 rfl (G + 1) i0 Tryz.underlying90 hi iz0 iz1 iz2 (.slice Av ps.length cv) ps rfl (hP5.below ((Below.refl _ _).alloc (Nat.le_refl _) _)) ⟨w7.heap.size, 0, none⟩ rfl q ?hc ?hlen ?hbb ?_)
                  go_must (case hc => exact (za.new w7 23 #[.pointer q]).cell 0)
                  go_must (case hlen => omega)
                  go_must (case hbb => simp; omega)
                  intro v8 w8 hP8 hK8 hB8 hO8
                  obtain ⟨Av8, cv8, rfl⟩ := hP8.slice
                  have hX8 : za w8 G 92 #[.string s, .int .i64 (d : Nat), .slice (some ⟨gl, ol, none⟩) X.length cl, .slice Av ps.length cv] := (hX5.alloc _).kept (hO8 G (by simp; omega) (fun e => by have := (hbs G e).1; omega))
                  have x3 := hX8.cell 3
                  have f3 := hX8.frozen 3)
     have hKA : za9 w7 w8 := (za9.below ((Below.refl _ _).alloc (Nat.le_refl _) (.cells #[.pointer q] 23))).trans hK8
     have hKS := za9.set hX8 (.inl rfl) x3 (fun k n e => by cases e) (.slice Av8 (ps.length + 1) cv8)
     have hBS : Below G w4 (w8.setCell ⟨G, 3, none⟩ (.slice Av8 (ps.length + 1) cv8)) := ((hB05.alloc hz5 _).trans (hB8.mono (by omega))).setCell (p := ⟨G, 3, none⟩) (Nat.le_refl _) _
     have hP9 : PRow w8 (G + 1) (.slice Av8 (ps.length + 1) cv8) (ps ++ [q]) := by simpa using hP8
     have hPS := hP9.far (p := ⟨G, 3, none⟩) (by simp) (.slice Av8 (ps.length + 1) cv8)
     have hOkS := (hOk.keepI (((za9.below hB5).trans hKA).trans hKS)).snoc (q := q) (by
      intro r hr
      rw [hXk] at hr
      obtain rfl := Option.some.inj hr
      refine ⟨fun h1 => ?_, fun h1 => HQ.out.2 h1⟩
      obtain ⟨gi, h2, h3⟩ := HQ.out.1 h1
      exact ⟨gi, h2, (h3.keepI hKA).keepI hKS⟩)
     go_wp2_with fail
     go_roundw
     case rel => exact ⟨ps ++ [q], _, by rw [List.length_append]; exact hlt, by rw [List.length_append]; go_num, hX8.put 3 _, hPS, hBS, hOkS, hid (by rw [List.length_append]; exact HE2.out)⟩
     case measure => simp [intOf]; omega
    ·have HNX := hid (HEX.out hxne)
     clear HEX HLP hEQ hxne
     go_wp2_with fail
     go_ret2
     exact HS.out _ _ (HBW.out _ hB05) HTA.out (by simpa using HNX.out)
  ·have hpl : ps.length = X.length := by omega
   have hXN : ¬ ((ps.length : Int) < (X.length : Int)) := by omega
   have HHX := hid (hpl)
   have HTT := hid (HTE.out (by first | rfl | trivial) HNN.out (fun j h h' => hEQ.out j h h' (by omega)))
   clear hpl
   obtain ⟨Ai, ci, rfl⟩ := hP.slice
   go_wp2_with fail
   go_ret2
   have hX' := hX
   rw [HHX.out] at hX'
   exact HY.out _ G d (HBW.out _ hB) hd1 hd2 (HST.out _ G Al cl Ai ci ps hX' (HKR.out _ hB) hP.lst.1 HHX.out hOk) (by rw [← HTT.out]; exact HTA.out)
end Go.Proofs.YtgpbpgpolpakjaaGreatDoor
