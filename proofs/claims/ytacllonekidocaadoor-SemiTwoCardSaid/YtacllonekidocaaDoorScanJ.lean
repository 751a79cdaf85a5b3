/- Walks: the scanner's text. -/
import Derived.Test.YtacllonekidocaaDoorScanI
import Derived.Test.YtacllonekidocaaDoorScanE
import Derived.Test.YtacllonekidocaaDoorAutoD
set_option linter.unusedVariables false
set_option linter.unusedSimpArgs false
set_option maxRecDepth 100000
namespace Go.Proofs.YtacllonekidocaaDoor
open Go.RowKit Go.Shelf L

/-- Where the scanner stands at its labels: ahead of a value (0), at a bracket that closes (1), ahead of a key (2), behind a value (3). -/
def TPos (l : List Nat) (lab k m : Nat) (st : List Bool) : Prop :=
  (lab = 0 ∧ R l L.start 0 (Q 0 st m) k) ∨ (lab = 1 ∧ st ≠ [] ∧ k < l.length ∧ ∃ q, R l L.start 0 q k ∧ delta q (at_ l k) = some (Q 5 st.tail m)) ∨ (lab = 2 ∧ R l L.start 0 (Q 3 st m) k) ∨ (lab = 3 ∧ R l L.start 0 (Q 5 st m) k)
structure TSt (w w' : World) (g : Nat) (s : ByteArray) (k d m : Nat) (v : Value) (st : List Bool) : Prop where
  sc : ScAt w' g s k v d m
  len : d = st.length
  sk : SkAt w' g v st
  be : Below g w w'
  kle : k ≤ s.size
  dle : d ≤ k
  mle : m ≤ k
/-- What is told at the end. -/
def Txt (w w' : World) (g : Nat) (s : ByteArray) (ok : Bool) : Prop :=
  ∃ k v d m, ScAt w' g s k v d m ∧ Below g w w' ∧ ((ok = true ∧ k = s.size ∧ ∃ q, R (nb s) L.start 0 q k ∧ fin q = true ∧ q.most = m) ∨ (ok = false ∧ ∃ q, R (nb s) L.start 0 q k ∧ Dead (nb s) q k))

theorem SkAt.sco {w w' : World} {g : Nat} {v : Value} {st : List Bool} (h : SkAt w g v st) (ho : Sco g w w') : SkAt w' g v st := by
  obtain ⟨ws, hown, ht⟩ := h
  exact ⟨ws, own_only hown ho (fun j hj e => by have := (hown.lt _ hj).1; omega), ht⟩
theorem Sco.be {w w' : World} {g : Nat} (ho : Sco g w w') (hg : g ≤ w.heap.size) : Below g w w' := Only.below ho (fun i hi => by rw [hi]; exact Nat.le_refl _) hg
theorem TSt.sco {w w1 w2 : World} {g : Nat} {s : ByteArray} {k d m k' : Nat} {v : Value} {st : List Bool} (h : TSt w w1 g s k d m v st) (hb : ScAt w2 g s k' v d m) (ho : Sco g w1 w2) (hk : k ≤ k') (hk' : k' ≤ s.size) : TSt w w2 g s k' d m v st :=
  ⟨hb, h.len, h.sk.sco ho, h.be.trans (ho.be (Nat.le_of_lt (BlkIs.lt h.sc))), hk', Nat.le_trans h.dle hk, Nat.le_trans h.mle hk⟩

theorem Blk.nb {l : List Nat} {k k' : Nat} (h : Blk l k k') : L.blank (at_ l k') = false := by
  rcases Nat.lt_or_ge k' l.length with h1 | h1
  · exact h.2.2.2 h1
  · rw [at_out h1]; rfl
theorem colon_nz : ∀ i, i < ({ data := #[58] } : ByteArray).size → at_ (nb { data := #[58] }) i ≠ 0 := fun i hi => by
  have h1 : i < 1 := hi
  obtain rfl : i = 0 := by omega
  decide
theorem colon_nb : nb { data := #[58] } = [58] := rfl

/-- The frame at a label: the scanner in its first slot. -/
def FrJ (g : Nat) (a : Act) : Prop := ∃ f : Nat → Value, a = { tmps := #[.pointer (some ⟨g, 0, none⟩), f 1, f 2, f 3, f 4, f 5, f 6, f 7, f 8, f 9, f 10, f 11, f 12, f 13, f 14, f 15, f 16, f 17, f 18, f 19, f 20, f 21, f 22, f 23, f 24, f 25, f 26, f 27, f 28, f 29, f 30, f 31, f 32, f 33, f 34, f 35, f 36, f 37, f 38, f 39, f 40, f 41, f 42, f 43, f 44, f 45, f 46, f 47, f 48, f 49, f 50, f 51, f 52, f 53, f 54, f 55, f 56, f 57, f 58, f 59, f 60, f 61, f 62, f 63, f 64, f 65, f 66, f 67, f 68, f 69, f 70, f 71, f 72, f 73, f 74, f 75, f 76, f 77, f 78, f 79, f 80, f 81, f 82, f 83, f 84, f 85, f 86, f 87, f 88, f 89, f 90, f 91, f 92, f 93, f 94, f 95, f 96, f 97], defers := [] }
theorem FrJ.mk (g : Nat) (u1 u2 u3 u4 u5 u6 u7 u8 u9 u10 u11 u12 u13 u14 u15 u16 u17 u18 u19 u20 u21 u22 u23 u24 u25 u26 u27 u28 u29 u30 u31 u32 u33 u34 u35 u36 u37 u38 u39 u40 u41 u42 u43 u44 u45 u46 u47 u48 u49 u50 u51 u52 u53 u54 u55 u56 u57 u58 u59 u60 u61 u62 u63 u64 u65 u66 u67 u68 u69 u70 u71 u72 u73 u74 u75 u76 u77 u78 u79 u80 u81 u82 u83 u84 u85 u86 u87 u88 u89 u90 u91 u92 u93 u94 u95 u96 u97 : Value) : FrJ g { tmps := #[.pointer (some ⟨g, 0, none⟩), u1, u2, u3, u4, u5, u6, u7, u8, u9, u10, u11, u12, u13, u14, u15, u16, u17, u18, u19, u20, u21, u22, u23, u24, u25, u26, u27, u28, u29, u30, u31, u32, u33, u34, u35, u36, u37, u38, u39, u40, u41, u42, u43, u44, u45, u46, u47, u48, u49, u50, u51, u52, u53, u54, u55, u56, u57, u58, u59, u60, u61, u62, u63, u64, u65, u66, u67, u68, u69, u70, u71, u72, u73, u74, u75, u76, u77, u78, u79, u80, u81, u82, u83, u84, u85, u86, u87, u88, u89, u90, u91, u92, u93, u94, u95, u96, u97], defers := [] } := ⟨fun i => ([undef, u1, u2, u3, u4, u5, u6, u7, u8, u9, u10, u11, u12, u13, u14, u15, u16, u17, u18, u19, u20, u21, u22, u23, u24, u25, u26, u27, u28, u29, u30, u31, u32, u33, u34, u35, u36, u37, u38, u39, u40, u41, u42, u43, u44, u45, u46, u47, u48, u49, u50, u51, u52, u53, u54, u55, u56, u57, u58, u59, u60, u61, u62, u63, u64, u65, u66, u67, u68, u69, u70, u71, u72, u73, u74, u75, u76, u77, u78, u79, u80, u81, u82, u83, u84, u85, u86, u87, u88, u89, u90, u91, u92, u93, u94, u95, u96, u97] : List Value)[i]?.getD undef, rfl⟩

set_option maxHeartbeats 20000000 in
theorem stext_any (g : Nat) (s : ByteArray) (w : World) (hb : ScAt w g s 0 (.slice none 0 0) 0 0) (hs : s.size ≤ 65536) :
    Calls Tryd.prog 35 #[.pointer (some ⟨g, 0, none⟩)] w fun e w' => ∃ ok, e = .returned (.bool ok) ∧ Txt w w' g s ok := by
  have hll := nb_length s
  go_enter Tryd.func35, Tryd.ntmps35
  go_wp2_with fail
  refine wp_scope_falls (fun l a' w' => ∃ (k d m : Nat) (v : Value) (st : List Bool), TSt w w' g s k d m v st ∧ TPos (nb s) l k m st ∧ FrJ g a') (fun l _ w' => 3 * (s.size - posOf w' g) + (if l = 0 then 2 else if l = 3 then 1 else 0)) ?_ ?_ ?_
  · rintro l a' w' ⟨k, d, m, v, st, T, P, _⟩
    rcases P with ⟨rfl, _⟩ | ⟨rfl, _⟩ | ⟨rfl, _⟩ | ⟨rfl, _⟩
    · exact ⟨_, rfl⟩
    · exact ⟨_, rfl⟩
    · exact ⟨_, rfl⟩
    · exact ⟨_, rfl⟩
  · rintro l B hB a' w' ⟨k, d, m, v, st, T, P, hfr⟩ fall
    rcases P with ⟨rfl, hR⟩ | ⟨rfl, hne, hkl, q, hr, hdl⟩ | ⟨rfl, hR⟩ | ⟨rfl, hR⟩
    · have e := Option.some.inj (hB.symm.trans (rfl : findLabel _ 0 = some (Code.seq Code.skip _)))
      clear hB
      injection e with _ e2
      subst e2
      obtain ⟨f, rfl⟩ := hfr
      dsimp only at fall ⊢
      go_wp2_with fail
      refine (sblanks_any g s k v d m _ (by exact T.sc) T.kle hs).mono ?_
      rintro e w1 ⟨rfl, k1, hb1, ho1, hbk1⟩
      have T1 := T.sco hb1 ho1 hbk1.1 (by have := hbk1.2.1; rw [hll] at this; exact this)
      have R1 := hid ((hR).trans (blanks_R (M := 0) (by omega) st m hbk1.1 hbk1.2.1 hbk1.2.2.1))
      have B1 := hid hbk1.nb
      have G1 := hid hbk1.1
      have L1 : k1 ≤ (nb s).length := by rw [hll]; exact T1.kle
      clear hbk1 hb1 ho1
      have SN2 := snext2 g s k1 v d m _ T1.sc
      generalize hc2 : at_ (nb s) k1 = c2 at SN2
      have C2 := hid hc2
      clear hc2
      go_wp2_with fail
      refine SN2.mono ?_
      rintro e w2 ⟨rfl, hb2, ho2⟩
      have T2 := T1.sco hb2 ho2 (Nat.le_refl _) T1.kle
      clear hb2 ho2 SN2
      by_cases h91 : c2 = 91
      · have hI : (c2 : Int) = 91 := by omega
        have HK := hid h91
        go_wp2_with fail
        refine (spush_any g s k1 v d m false st _ (by exact T2.sc) T2.len (by have := T2.dle; have := T2.kle; omega) (by have := T2.kle; omega) (by have := T2.mle; have := T2.kle; omega) T2.sk).mono ?_
        rintro e w3 ⟨rfl, v3, hb3, hs3, he3⟩
        have K3 : k1 < s.size := at_in (by rw [C2.out, HK.out]; decide)
        have T3 : TSt w w3 g s (k1 + 1) (d + 1) (max m (d + 1)) v3 (false :: st) := ⟨hb3, by rw [List.length_cons, T2.len], hs3, T2.be.trans he3, K3, by have := T2.dle; omega, by have := T2.dle; have := T2.mle; omega⟩
        have R3 := hid (R1.out.trans (open_arr (by rw [C2.out]; exact HK.out)))
        rw [← T2.len] at R3
        clear hb3 hs3 he3
        obtain ⟨d3, hd3⟩ : ∃ d3, d3 = d + 1 := ⟨_, rfl⟩
        obtain ⟨m3, hm3⟩ : ∃ m3, m3 = max m (d + 1) := ⟨_, rfl⟩
        obtain ⟨k3, hk3⟩ : ∃ k3, k3 = k1 + 1 := ⟨_, rfl⟩
        rw [← hm3, ← hk3, ← hd3] at T3
        rw [← hm3, ← hk3] at R3
        have HK3 := hid hk3
        clear hd3 hm3 hk3
        go_wp2_with fail
        refine (sblanks_any g s k3 v3 d3 m3 _ (by exact T3.sc) T3.kle hs).mono ?_
        rintro e w4 ⟨rfl, k4, hb4, ho4, hbk4⟩
        have T4 := T3.sco hb4 ho4 hbk4.1 (by have := hbk4.2.1; rw [hll] at this; exact this)
        have R4 := hid ((R3.out).trans (blanks_R (M := 1) (by omega) (false :: st) m3 hbk4.1 hbk4.2.1 hbk4.2.2.1))
        have B4 := hid hbk4.nb
        have G4 := hid hbk4.1
        have L4 : k4 ≤ (nb s).length := by rw [hll]; exact T4.kle
        clear hbk4 hb4 ho4
        have SN5 := snext2 g s k4 v3 d3 m3 _ T4.sc
        generalize hc5 : at_ (nb s) k4 = c5 at SN5
        have C5 := hid hc5
        clear hc5
        go_wp2_with fail
        refine SN5.mono ?_
        rintro e w5 ⟨rfl, hb5, ho5⟩
        have T5 := T4.sco hb5 ho5 (Nat.le_refl _) T4.kle
        clear hb5 ho5 SN5
        by_cases h5 : c5 = 93
        · have hI5 : (c5 : Int) = 93 := by omega
          have K5 := hid (show at_ (nb s) k4 = 93 by rw [C5.out]; exact h5)
          go_wp2_with fail
          go_step3
          refine ⟨⟨k4, d3, m3, v3, (false :: st), T5, Or.inr (Or.inl ⟨rfl, by simp, by rw [hll]; exact at_in (by rw [K5.out]; decide), _, R4.out, close_first _ K5.out⟩), FrJ.mk ..⟩, ?_⟩
          show 3 * (s.size - posOf _ g) + 0 < 3 * (s.size - posOf _ g) + 2
          rw [T5.sc.pos, T.sc.pos]
          have := T5.kle
          have := HK3.out; have := G1.out; have := G4.out; have := T3.kle; omega
        · have hN5 : ((c5 : Int) == 93) = false := by rw [beq_eq_false_iff_ne]; omega
          have K5 := hid (show at_ (nb s) k4 ≠ 93 by rw [C5.out]; exact h5)
          go_wp2_with fail
          go_step3
          refine ⟨⟨k4, d3, m3, v3, (false :: st), T5, Or.inl ⟨rfl, R4.out.like (like_first B4.out K5.out)⟩, FrJ.mk ..⟩, ?_⟩
          show 3 * (s.size - posOf _ g) + 2 < 3 * (s.size - posOf _ g) + 2
          rw [T5.sc.pos, T.sc.pos]
          have := T5.kle
          have := HK3.out; have := G1.out; have := G4.out; have := T3.kle; omega
      · have hN91 : ((c2 : Int) == 91) = false := by rw [beq_eq_false_iff_ne]; omega
        by_cases h123 : c2 = 123
        · have hI : (c2 : Int) = 123 := by omega
          have HK := hid h123
          go_wp2_with fail
          refine (spush_any g s k1 v d m true st _ (by exact T2.sc) T2.len (by have := T2.dle; have := T2.kle; omega) (by have := T2.kle; omega) (by have := T2.mle; have := T2.kle; omega) T2.sk).mono ?_
          rintro e w3 ⟨rfl, v3, hb3, hs3, he3⟩
          have K3 : k1 < s.size := at_in (by rw [C2.out, HK.out]; decide)
          have T3 : TSt w w3 g s (k1 + 1) (d + 1) (max m (d + 1)) v3 (true :: st) := ⟨hb3, by rw [List.length_cons, T2.len], hs3, T2.be.trans he3, K3, by have := T2.dle; omega, by have := T2.dle; have := T2.mle; omega⟩
          have R3 := hid (R1.out.trans (open_obj (by rw [C2.out]; exact HK.out)))
          rw [← T2.len] at R3
          clear hb3 hs3 he3
          obtain ⟨d3, hd3⟩ : ∃ d3, d3 = d + 1 := ⟨_, rfl⟩
          obtain ⟨m3, hm3⟩ : ∃ m3, m3 = max m (d + 1) := ⟨_, rfl⟩
          obtain ⟨k3, hk3⟩ : ∃ k3, k3 = k1 + 1 := ⟨_, rfl⟩
          rw [← hm3, ← hk3, ← hd3] at T3
          rw [← hm3, ← hk3] at R3
          have HK3 := hid hk3
          clear hd3 hm3 hk3
          go_wp2_with fail
          refine (sblanks_any g s k3 v3 d3 m3 _ (by exact T3.sc) T3.kle hs).mono ?_
          rintro e w4 ⟨rfl, k4, hb4, ho4, hbk4⟩
          have T4 := T3.sco hb4 ho4 hbk4.1 (by have := hbk4.2.1; rw [hll] at this; exact this)
          have R4 := hid ((R3.out).trans (blanks_R (M := 2) (by omega) (true :: st) m3 hbk4.1 hbk4.2.1 hbk4.2.2.1))
          have B4 := hid hbk4.nb
          have G4 := hid hbk4.1
          have L4 : k4 ≤ (nb s).length := by rw [hll]; exact T4.kle
          clear hbk4 hb4 ho4
          have SN5 := snext2 g s k4 v3 d3 m3 _ T4.sc
          generalize hc5 : at_ (nb s) k4 = c5 at SN5
          have C5 := hid hc5
          clear hc5
          go_wp2_with fail
          refine SN5.mono ?_
          rintro e w5 ⟨rfl, hb5, ho5⟩
          have T5 := T4.sco hb5 ho5 (Nat.le_refl _) T4.kle
          clear hb5 ho5 SN5
          by_cases h5 : c5 = 125
          · have hI5 : (c5 : Int) = 125 := by omega
            have K5 := hid (show at_ (nb s) k4 = 125 by rw [C5.out]; exact h5)
            go_wp2_with fail
            go_step3
            refine ⟨⟨k4, d3, m3, v3, (true :: st), T5, Or.inr (Or.inl ⟨rfl, by simp, by rw [hll]; exact at_in (by rw [K5.out]; decide), _, R4.out, close_firstk _ K5.out⟩), FrJ.mk ..⟩, ?_⟩
            show 3 * (s.size - posOf _ g) + 0 < 3 * (s.size - posOf _ g) + 2
            rw [T5.sc.pos, T.sc.pos]
            have := T5.kle
            have := HK3.out; have := G1.out; have := G4.out; have := T3.kle; omega
          · have hN5 : ((c5 : Int) == 125) = false := by rw [beq_eq_false_iff_ne]; omega
            have K5 := hid (show at_ (nb s) k4 ≠ 125 by rw [C5.out]; exact h5)
            go_wp2_with fail
            go_step3
            refine ⟨⟨k4, d3, m3, v3, (true :: st), T5, Or.inr (Or.inr (Or.inl ⟨rfl, R4.out.like (like_firstk B4.out K5.out)⟩)), FrJ.mk ..⟩, ?_⟩
            show 3 * (s.size - posOf _ g) + 0 < 3 * (s.size - posOf _ g) + 2
            rw [T5.sc.pos, T.sc.pos]
            have := T5.kle
            have := HK3.out; have := G1.out; have := G4.out; have := T3.kle; omega
        · have hN123 : ((c2 : Int) == 123) = false := by rw [beq_eq_false_iff_ne]; omega
          have SL := sleaf_any g s k1 v d m w2 T2.sc T2.kle hs B1.out (by rw [C2.out]; exact h91) (by rw [C2.out]; exact h123)
          go_wp2_with fail
          refine SL.mono ?_
          rintro e w3 ⟨k3, ok, rfl, hb3, ho3, hn3⟩
          have hle3 := (hn3 (Q 0 st m)).le
          have T3 := T2.sco hb3 ho3 hle3.1 (by have := hle3.2; rw [hll] at this; exact this)
          have G3 := hid hle3.1
          have g3 : Goes (nb s) (Q 0 st m) k1 ok (Q 5 st m) k3 := hn3 (Q 0 st m)
          clear hb3 ho3 hle3 hn3
          rcases g3 with ⟨rfl, r3⟩ | ⟨rfl, q3, r3, d3⟩
          · have R3 := hid (R1.out.trans r3)
            clear r3
            go_wp2_with fail
            go_step3
            refine ⟨⟨k3, d, m, v, st, T3, Or.inr (Or.inr (Or.inr ⟨rfl, R3.out⟩)), FrJ.mk ..⟩, ?_⟩
            show 3 * (s.size - posOf _ g) + 1 < 3 * (s.size - posOf _ g) + 2
            rw [T3.sc.pos, T.sc.pos]
            have := T3.kle
            have := G1.out; have := G3.out; omega
          · have R3 := hid (R1.out.trans r3)
            have D3 := hid d3
            clear r3 d3
            go_wp2_with fail
            go_ret
            exact ⟨false, rfl, k3, v, d, m, T3.sc, T3.be, Or.inr ⟨rfl, q3, R3.out, D3.out⟩⟩
    · have e := Option.some.inj (hB.symm.trans (rfl : findLabel _ 1 = some (Code.seq Code.skip _)))
      clear hB
      injection e with _ e2
      subst e2
      obtain ⟨f, rfl⟩ := hfr
      dsimp only at fall ⊢
      obtain ⟨t, st', rfl⟩ : ∃ t st', st = t :: st' := by
        cases st with
        | nil => exact absurd rfl hne
        | cons t st' => exact ⟨t, st', rfl⟩
      obtain ⟨d', rfl⟩ : ∃ d', d = d' + 1 := ⟨d - 1, by have := T.len; rw [List.length_cons] at this; omega⟩
      have hkk : k < s.size := by rw [hll] at hkl; exact hkl
      have R2 := hid (show R (nb s) L.start 0 (Q 5 st' m) (k + 1) from hr.step hkl hdl)
      clear hr hdl hkl hne
      go_wp2_with fail
      refine (spop_any g s k v d' m _ (by exact T.sc) (by omega) (by have := T.dle; omega)).mono ?_
      rintro e w1 ⟨rfl, hb1, ho1⟩
      have T1 : TSt w w1 g s (k + 1) d' m v st' := ⟨hb1, by have := T.len; rw [List.length_cons] at this; omega, by
          obtain ⟨ws, hown, ht⟩ := T.sk.sco ho1
          exact ⟨ws, hown, ht.pop⟩, T.be.trans (ho1.be (Nat.le_of_lt (BlkIs.lt T.sc))), hkk, by have := T.dle; omega, by have := T.mle; omega⟩
      clear hb1 ho1
      go_wp2_with fail
      go_step3
      rename_i hQ
      refine hQ _ _ (fall 3 _ rfl _ _ ⟨k + 1, d', m, v, st', T1, Or.inr (Or.inr (Or.inr ⟨rfl, R2.out⟩)), FrJ.mk ..⟩ ?_)
      show 3 * (s.size - posOf _ g) + 1 < 3 * (s.size - posOf _ g) + 0
      rw [T1.sc.pos, T.sc.pos]
      omega
    · have e := Option.some.inj (hB.symm.trans (rfl : findLabel _ 2 = some (Code.seq Code.skip _)))
      clear hB
      injection e with _ e2
      subst e2
      obtain ⟨f, rfl⟩ := hfr
      dsimp only at fall ⊢
      go_wp2_with fail
      refine (sblanks_any g s k v d m _ (by exact T.sc) T.kle hs).mono ?_
      rintro e w1 ⟨rfl, k1, hb1, ho1, hbk1⟩
      have T1 := T.sco hb1 ho1 hbk1.1 (by have := hbk1.2.1; rw [hll] at this; exact this)
      have R1 := hid ((hR).trans (blanks_R (M := 3) (by omega) st m hbk1.1 hbk1.2.1 hbk1.2.2.1))
      have B1 := hid hbk1.nb
      have G1 := hid hbk1.1
      have L1 : k1 ≤ (nb s).length := by rw [hll]; exact T1.kle
      clear hbk1 hb1 ho1
      go_wp2_with fail
      refine (sstr_any g s k1 v d m _ (by exact T1.sc) T1.kle hs).mono ?_
      rintro e w2 ⟨k2, ok, rfl, hb2, ho2, hq2⟩
      rcases hq2 with ⟨hq, rfl, rfl⟩ | ⟨hq, hst⟩
      · have T2 := T1.sco hb2 ho2 (Nat.le_refl _) T1.kle
        have D2 := hid (key_dead (st := st) (m := m) L1 B1.out hq)
        clear hb2 ho2 hq
        go_wp2_with fail
        go_ret
        exact ⟨false, rfl, _, v, d, m, T2.sc, T2.be, Or.inr ⟨rfl, _, R1.out, D2.out⟩⟩
      · have g2 : Goes (nb s) (Q 3 st m) k1 ok (Q 4 st m) k2 := Goes.pre (key_open hq) (hst (Q 3 st m) true)
        have hle2 := g2.le
        have T2 := T1.sco hb2 ho2 hle2.1 (by have := hle2.2; rw [hll] at this; exact this)
        have G2 := hid hle2.1
        clear hb2 ho2 hle2 hst
        rcases g2 with ⟨rfl, r2⟩ | ⟨rfl, q2, r2, d2⟩
        · have R2 := hid (R1.out.trans r2)
          clear r2
          go_wp2_with fail
          refine (sblanks_any g s k2 v d m _ (by exact T2.sc) T2.kle hs).mono ?_
          rintro e w3 ⟨rfl, k3, hb3, ho3, hbk3⟩
          have T3 := T2.sco hb3 ho3 hbk3.1 (by have := hbk3.2.1; rw [hll] at this; exact this)
          have R3 := hid ((R2.out).trans (blanks_R (M := 4) (by omega) st m hbk3.1 hbk3.2.1 hbk3.2.2.1))
          have B3 := hid hbk3.nb
          have G3 := hid hbk3.1
          have L3 : k3 ≤ (nb s).length := by rw [hll]; exact T3.kle
          clear hbk3 hb3 ho3
          go_wp2_with fail
          refine (stake_any { data := #[58] } g s k3 v d m _ (by exact T3.sc) T3.kle hs colon_nz (by decide)).mono ?_
          rintro e w4 ⟨k4, ok, rfl, hb4, ho4, hk4, htk⟩
          rw [colon_nb] at htk
          rcases tk_one htk with ⟨rfl, hk4e, hq4⟩ | ⟨rfl, hk4e, hq4⟩
          · have T4 := T3.sco hb4 ho4 (by omega) hk4
            have R4 := hid (show R (nb s) L.start 0 (Q 0 st m) k4 from by rw [hk4e]; exact R3.out.trans (colon_R hq4))
            have E4 := hid hk4e
            clear hb4 ho4 htk hk4e hk4 hq4
            go_wp2_with fail
            go_step3
            refine ⟨⟨k4, d, m, v, st, T4, Or.inl ⟨rfl, R4.out⟩, FrJ.mk ..⟩, ?_⟩
            show 3 * (s.size - posOf _ g) + 2 < 3 * (s.size - posOf _ g) + 0
            rw [T4.sc.pos, T.sc.pos]
            have := T4.kle
            have := E4.out; have := G1.out; have := G2.out; have := G3.out; omega
          · have T4 := T3.sco hb4 ho4 (by omega) hk4
            have D4 := hid (show Dead (nb s) (Q 4 st m) k4 from by rw [hk4e]; exact colon_dead L3 B3.out hq4)
            have R4 := hid (show R (nb s) L.start 0 (Q 4 st m) k4 from by rw [hk4e]; exact R3.out)
            clear hb4 ho4 htk hk4e hk4 hq4
            go_wp2_with fail
            go_ret
            exact ⟨false, rfl, k4, v, d, m, T4.sc, T4.be, Or.inr ⟨rfl, _, R4.out, D4.out⟩⟩
        · have R2 := hid (R1.out.trans r2)
          have D2 := hid d2
          clear r2 d2
          go_wp2_with fail
          go_ret
          exact ⟨false, rfl, k2, v, d, m, T2.sc, T2.be, Or.inr ⟨rfl, _, R2.out, D2.out⟩⟩
    · have e := Option.some.inj (hB.symm.trans (rfl : findLabel _ 3 = some (Code.seq Code.skip _)))
      clear hB
      injection e with _ e2
      subst e2
      obtain ⟨f, rfl⟩ := hfr
      dsimp only at fall ⊢
      go_wp2_with fail
      refine (sblanks_any g s k v d m _ (by exact T.sc) T.kle hs).mono ?_
      rintro e w1 ⟨rfl, k1, hb1, ho1, hbk1⟩
      have T1 := T.sco hb1 ho1 hbk1.1 (by have := hbk1.2.1; rw [hll] at this; exact this)
      have R1 := hid ((hR).trans (blanks_R (M := 5) (by omega) st m hbk1.1 hbk1.2.1 hbk1.2.2.1))
      have B1 := hid hbk1.nb
      have G1 := hid hbk1.1
      have L1 : k1 ≤ (nb s).length := by rw [hll]; exact T1.kle
      clear hbk1 hb1 ho1
      cases st with
      | nil =>
        have hd0 : d = 0 := T1.len
        subst hd0
        have c0 := T1.sc.c0
        have c1 := T1.sc.c1
        have c3 := T1.sc.c3
        have hbe : ((k1 : Int) == (s.size : Int)) = decide (k1 = s.size) := by apply Bool.eq_iff_iff.2; rw [beq_iff_eq, decide_eq_true_eq]; omega
        go_wp2_with fail
        go_quiet (fail)
        go_wp2_with fail
        go_ret
        refine ⟨decide (k1 = s.size), ret_bool' (by first | exact hbe | rfl), k1, v, 0, m, T1.sc.drewN _, below_drewN T1.be _, ?_⟩
        by_cases hks : k1 = s.size
        · exact Or.inl ⟨decide_eq_true hks, hks, _, R1.out, beh_fin m, rfl⟩
        · exact Or.inr ⟨decide_eq_false hks, _, R1.out, beh_dead0 (by rw [hll]; have := T1.kle; omega) B1.out⟩
      | cons t st' =>
        have hdp : 0 < d := by have := T1.len; rw [List.length_cons] at this; omega
        have hd0 : ((d : Int) == 0) = false := by rw [beq_eq_false_iff_ne]; omega
        have c3 := T1.sc.c3
        have SN2 := snext2 g s k1 v d m _ T1.sc
        generalize hc2 : at_ (nb s) k1 = c2 at SN2
        have C2 := hid hc2
        clear hc2
        go_wp2_with fail
        refine SN2.mono ?_
        rintro e w2 ⟨rfl, hb2, ho2⟩
        have T2 := T1.sco hb2 ho2 (Nat.le_refl _) T1.kle
        clear hb2 ho2 SN2
        by_cases h44 : c2 = 44
        · have hI : (c2 : Int) = 44 := by omega
          have HK := hid h44
          cases t
          · go_wp2_with fail
            refine (sobject_any g s k1 v d m false st' _ (by exact T2.sc) (by rw [T2.len, List.length_cons]) (by have := T2.dle; have := T2.kle; omega) T2.sk).mono ?_
            rintro e w3 ⟨rfl, n3, hn3⟩
            have hb3 : ScAt w3 g s k1 v d m := by rw [hn3]; exact T2.sc.drewN n3
            have ho3 : Sco g w2 w3 := by rw [hn3]; exact (Sco.refl g w2).drewN n3
            have T3 := T2.sco hb3 ho3 (Nat.le_refl _) T2.kle
            clear hb3 ho3 hn3
            have c1' := T3.sc.c1
            have f1' := T3.sc.fr 1
            have x1' := wrap_oneS k1 (by have := T3.kle; omega)
            have K2 : k1 < s.size := at_in (by rw [C2.out, HK.out]; decide)
            have T4 := T3.sco (T3.sc.at' (k1 + 1) ((k1 : Int) + 1) (by omega)) ((Sco.refl g _).set 1 _) (by omega) K2
            have R4 := hid (R1.out.trans (beh_val (by rw [C2.out]; exact HK.out)))
            go_wp2_with fail
            go_step3
            refine ⟨⟨(k1 + 1), d, m, v, (false :: st'), T4, Or.inl ⟨rfl, R4.out⟩, FrJ.mk ..⟩, ?_⟩
            show 3 * (s.size - posOf _ g) + 2 < 3 * (s.size - posOf _ g) + 1
            rw [T4.sc.pos, T.sc.pos]
            have := T4.kle
            have := G1.out; omega
          · go_wp2_with fail
            refine (sobject_any g s k1 v d m true st' _ (by exact T2.sc) (by rw [T2.len, List.length_cons]) (by have := T2.dle; have := T2.kle; omega) T2.sk).mono ?_
            rintro e w3 ⟨rfl, n3, hn3⟩
            have hb3 : ScAt w3 g s k1 v d m := by rw [hn3]; exact T2.sc.drewN n3
            have ho3 : Sco g w2 w3 := by rw [hn3]; exact (Sco.refl g w2).drewN n3
            have T3 := T2.sco hb3 ho3 (Nat.le_refl _) T2.kle
            clear hb3 ho3 hn3
            have c1' := T3.sc.c1
            have f1' := T3.sc.fr 1
            have x1' := wrap_oneS k1 (by have := T3.kle; omega)
            have K2 : k1 < s.size := at_in (by rw [C2.out, HK.out]; decide)
            have T4 := T3.sco (T3.sc.at' (k1 + 1) ((k1 : Int) + 1) (by omega)) ((Sco.refl g _).set 1 _) (by omega) K2
            have R4 := hid (R1.out.trans (beh_key (by rw [C2.out]; exact HK.out)))
            go_wp2_with fail
            go_step3
            refine ⟨⟨(k1 + 1), d, m, v, (true :: st'), T4, Or.inr (Or.inr (Or.inl ⟨rfl, R4.out⟩)), FrJ.mk ..⟩, ?_⟩
            show 3 * (s.size - posOf _ g) + 0 < 3 * (s.size - posOf _ g) + 1
            rw [T4.sc.pos, T.sc.pos]
            have := T4.kle
            have := G1.out; omega
        · have hN44 : ((c2 : Int) == 44) = false := by rw [beq_eq_false_iff_ne]; omega
          by_cases h93 : c2 = 93
          · have hI : (c2 : Int) = 93 := by omega
            have HK := hid h93
            cases t
            · go_wp2_with fail
              refine (sobject_any g s k1 v d m false st' _ (by exact T2.sc) (by rw [T2.len, List.length_cons]) (by have := T2.dle; have := T2.kle; omega) T2.sk).mono ?_
              rintro e w3 ⟨rfl, n3, hn3⟩
              have hb3 : ScAt w3 g s k1 v d m := by rw [hn3]; exact T2.sc.drewN n3
              have ho3 : Sco g w2 w3 := by rw [hn3]; exact (Sco.refl g w2).drewN n3
              have T3 := T2.sco hb3 ho3 (Nat.le_refl _) T2.kle
              clear hb3 ho3 hn3
              go_wp2_with fail
              go_step3
              refine ⟨⟨k1, d, m, v, (false :: st'), T3, Or.inr (Or.inl ⟨rfl, by simp, by rw [hll]; exact at_in (by rw [C2.out, HK.out]; decide), _, R1.out, beh_close (Or.inl ⟨by rw [C2.out]; exact HK.out, rfl⟩)⟩), FrJ.mk ..⟩, ?_⟩
              show 3 * (s.size - posOf _ g) + 0 < 3 * (s.size - posOf _ g) + 1
              rw [T3.sc.pos, T.sc.pos]
              have := T3.kle
              have := G1.out; omega
            · go_wp2_with fail
              refine (sobject_any g s k1 v d m true st' _ (by exact T2.sc) (by rw [T2.len, List.length_cons]) (by have := T2.dle; have := T2.kle; omega) T2.sk).mono ?_
              rintro e w3 ⟨rfl, n3, hn3⟩
              have hb3 : ScAt w3 g s k1 v d m := by rw [hn3]; exact T2.sc.drewN n3
              have ho3 : Sco g w2 w3 := by rw [hn3]; exact (Sco.refl g w2).drewN n3
              have T3 := T2.sco hb3 ho3 (Nat.le_refl _) T2.kle
              clear hb3 ho3 hn3
              go_wp2_with fail
              go_ret
              exact ⟨false, rfl, k1, v, d, m, T3.sc, T3.be, Or.inr ⟨rfl, _, R1.out, beh_dead L1 B1.out (by rw [C2.out, HK.out]; decide) (by rw [C2.out, HK.out]; simp)⟩⟩
          · have hN93 : ((c2 : Int) == 93) = false := by rw [beq_eq_false_iff_ne]; omega
            by_cases h125 : c2 = 125
            · have hI : (c2 : Int) = 125 := by omega
              have HK := hid h125
              cases t
              · go_wp2_with fail
                refine (sobject_any g s k1 v d m false st' _ (by exact T2.sc) (by rw [T2.len, List.length_cons]) (by have := T2.dle; have := T2.kle; omega) T2.sk).mono ?_
                rintro e w3 ⟨rfl, n3, hn3⟩
                have hb3 : ScAt w3 g s k1 v d m := by rw [hn3]; exact T2.sc.drewN n3
                have ho3 : Sco g w2 w3 := by rw [hn3]; exact (Sco.refl g w2).drewN n3
                have T3 := T2.sco hb3 ho3 (Nat.le_refl _) T2.kle
                clear hb3 ho3 hn3
                go_wp2_with fail
                go_ret
                exact ⟨false, rfl, k1, v, d, m, T3.sc, T3.be, Or.inr ⟨rfl, _, R1.out, beh_dead L1 B1.out (by rw [C2.out, HK.out]; decide) (by rw [C2.out, HK.out]; simp)⟩⟩
              · go_wp2_with fail
                refine (sobject_any g s k1 v d m true st' _ (by exact T2.sc) (by rw [T2.len, List.length_cons]) (by have := T2.dle; have := T2.kle; omega) T2.sk).mono ?_
                rintro e w3 ⟨rfl, n3, hn3⟩
                have hb3 : ScAt w3 g s k1 v d m := by rw [hn3]; exact T2.sc.drewN n3
                have ho3 : Sco g w2 w3 := by rw [hn3]; exact (Sco.refl g w2).drewN n3
                have T3 := T2.sco hb3 ho3 (Nat.le_refl _) T2.kle
                clear hb3 ho3 hn3
                go_wp2_with fail
                go_step3
                refine ⟨⟨k1, d, m, v, (true :: st'), T3, Or.inr (Or.inl ⟨rfl, by simp, by rw [hll]; exact at_in (by rw [C2.out, HK.out]; decide), _, R1.out, beh_close (Or.inr ⟨by rw [C2.out]; exact HK.out, rfl⟩)⟩), FrJ.mk ..⟩, ?_⟩
                show 3 * (s.size - posOf _ g) + 0 < 3 * (s.size - posOf _ g) + 1
                rw [T3.sc.pos, T.sc.pos]
                have := T3.kle
                have := G1.out; omega
            · have hN125 : ((c2 : Int) == 125) = false := by rw [beq_eq_false_iff_ne]; omega
              have HN := hid (show at_ (nb s) k1 ≠ 44 ∧ at_ (nb s) k1 ≠ 93 ∧ at_ (nb s) k1 ≠ 125 by rw [C2.out]; exact ⟨h44, h93, h125⟩)
              go_wp2_with fail
              go_ret
              exact ⟨false, rfl, k1, v, d, m, T2.sc, T2.be, Or.inr ⟨rfl, _, R1.out, beh_dead L1 B1.out HN.out.1 (by have := HN.out; omega)⟩⟩
  · intro enter
    go_wp2_with fail
    go_step3
    rename_i hK
    refine hK _ _ (enter 0 _ rfl _ _ ?_)
    exact ⟨0, 0, 0, _, [], ⟨hb, rfl, ⟨[], World.ownsRow_nil _ _ _ _, Tells.nil⟩, Below.refl _ _, by omega, by omega, by omega⟩, Or.inl ⟨rfl, R.refl (by omega)⟩, FrJ.mk ..⟩

end Go.Proofs.YtacllonekidocaaDoor
