/- Walks: the laws of chapter 24: two files in one. -/
import Derived.Test.YtegoephanphnkaaLSplitC
import Derived.Deep.RegionLaw
import Derived.Outline
set_option linter.unusedVariables false
set_option linter.unusedSimpArgs false
set_option maxRecDepth 100000
namespace Go.Proofs.Ytegoephanphnkaa
open Go.RowKit Go.Shelf L

def shR (m : Nat) (r : RecN) : RecN := ⟨r.a + m, r.b + m, r.v, r.p⟩
theorem recs_both (a b : List Nat) (deep : Nat) (h0 : 0 < a.length) (hl : at_ a (a.length - 1) ≠ 10) : recs (a ++ 10 :: b) deep = recs a deep ++ (recs b deep).map (shR (a.length + 1)) := by
  unfold recs
  rw [two_spans a b h0 hl, List.map_append, List.map_map, List.map_map]
  congr 1
  · refine List.map_congr_left fun p hp => ?_
    have := spans_in hp
    unfold recN
    rw [sub_pre a (10 :: b) p.1 p.2 this.1 this.2]
  · refine List.map_congr_left fun p hp => ?_
    show recN (a ++ 10 :: b) deep (shP (a.length + 1) p) = shR (a.length + 1) (recN b deep p)
    unfold recN shP shR
    dsimp only
    rw [sub_later]

theorem own_empty4 (w : World) (base : Nat) (e : TypeId) (k : Nat) (hk : k = w.heap.size) (hb : base ≤ k) : (w.alloc (.cells #[] e)).ownsRow base e 4 (.slice (some ⟨k, 0, none⟩) 0 0) 0 [] := by
  subst hk
  exact World.ownsRow_lit w #[] 0 hb (by simp [maxLen]) rfl

set_option maxHeartbeats 4000000 in
theorem two_law (s m : ByteArray) (w : World) (hs : s.size ≤ 9223372036854775807) (hm : m.size ≤ 9223372036854775807) :
    Calls Try.prog 11 #[.string s, .string m] w fun e w' => e = .returned (.bool true) ∧ Below w.heap.size w w' := by
  obtain ⟨i0, hi, hz0, hz1, hz2⟩ := info_parts Try.infoRec
  have HL := hid (nb_length s)
  have HLM := hid (nb_length m)
  have hw : (∃ h : 400 < s.size, True) ∨ (s.size ≤ 400 ∧ 400 < m.size) ∨ (s.size ≤ 400 ∧ m.size ≤ 400 ∧ s.size = 0) ∨ (s.size ≤ 400 ∧ m.size ≤ 400 ∧ ∃ h : 0 < s.size, ∃ hbd : s.size - 1 < s.size, (s[s.size - 1]'hbd).toNat = 10) ∨ (s.size ≤ 400 ∧ m.size ≤ 400 ∧ ∃ h : 0 < s.size, ∃ hbd : s.size - 1 < s.size, (s[s.size - 1]'hbd).toNat ≠ 10) := by
    rcases Nat.lt_or_ge 400 s.size with h | h
    · exact Or.inl ⟨h, trivial⟩
    · rcases Nat.lt_or_ge 400 m.size with h2 | h2
      · exact Or.inr (Or.inl ⟨h, h2⟩)
      · rcases Nat.eq_zero_or_pos s.size with h3 | h3
        · exact Or.inr (Or.inr (Or.inl ⟨h, h2, h3⟩))
        · have hbd : s.size - 1 < s.size := by omega
          by_cases h4 : (s[s.size - 1]'hbd).toNat = 10
          · exact Or.inr (Or.inr (Or.inr (Or.inl ⟨h, h2, h3, hbd, h4⟩)))
          · exact Or.inr (Or.inr (Or.inr (Or.inr ⟨h, h2, h3, hbd, h4⟩)))
  rcases hw with ⟨h, _⟩ | ⟨h, h2⟩ | ⟨h, h2, h3⟩ | ⟨h, h2, h3, hbd, h4⟩ | ⟨h, h2, h3, hbd, h4⟩
  · have g1 : decide ((s.size : Int) > 400) = true := decide_eq_true (by omega)
    go_enter Try.func11, Try.ntmps11
    go_wp2_with fail
    refine (awake24 _).mono ?_
    rintro e w1 ⟨rfl, hB1⟩
    go_wp2_with fail
    refine (awake24 _).mono ?_
    rintro e w2 ⟨rfl, hB2⟩
    go_wp2_with fail
    go_ret
    exact ⟨rfl, hB1.trans (hB2.mono hB1.size)⟩
  · have g1 : decide ((s.size : Int) > 400) = false := decide_eq_false (by omega)
    have g1N : ¬ (400 < s.size) := by omega
    have g2 : decide ((m.size : Int) > 400) = true := decide_eq_true (by omega)
    go_enter Try.func11, Try.ntmps11
    go_wp2_with fail
    refine (awake24 _).mono ?_
    rintro e w1 ⟨rfl, hB1⟩
    go_wp2_with fail
    refine (awake24 _).mono ?_
    rintro e w2 ⟨rfl, hB2⟩
    go_wp2_with fail
    go_ret
    exact ⟨rfl, hB1.trans (hB2.mono hB1.size)⟩
  · have g1 : decide ((s.size : Int) > 400) = false := decide_eq_false (by omega)
    have g1N : ¬ (400 < s.size) := by omega
    have g2 : decide ((m.size : Int) > 400) = false := decide_eq_false (by omega)
    have g2N : ¬ (400 < m.size) := by omega
    have g3 : ((s.size : Int) == 0) = true := by rw [beq_iff_eq]; omega
    clear h3
    go_enter Try.func11, Try.ntmps11
    go_wp2_with fail
    refine (awake24 _).mono ?_
    rintro e w1 ⟨rfl, hB1⟩
    go_wp2_with fail
    refine (awake24 _).mono ?_
    rintro e w2 ⟨rfl, hB2⟩
    go_wp2_with fail
    go_ret
    exact ⟨rfl, hB1.trans (hB2.mono hB1.size)⟩
  · have g1 : decide ((s.size : Int) > 400) = false := decide_eq_false (by omega)
    have g1N : ¬ (400 < s.size) := by omega
    have g2 : decide ((m.size : Int) > 400) = false := decide_eq_false (by omega)
    have g2N : ¬ (400 < m.size) := by omega
    have g3 : ((s.size : Int) == 0) = false := by rw [beq_eq_false_iff_ne]; omega
    have g4 : ((s[s.size - 1]'hbd).toNat : Int) = 10 := by omega
    have hl1 : (0 : Int) ≤ (s.size : Int) - 1 := by omega
    have hl2 : (s.size : Int) - 1 < (s.size : Int) := by omega
    have hl3 : IntKind.i64.wrap ((s.size : Int) - 1) = (s.size : Int) - 1 := by rw [IntKind.wrap_i64]; omega
    have hl4 : ((s.size : Int) - 1).toNat = s.size - 1 := by omega
    clear h4
    go_enter Try.func11, Try.ntmps11
    go_wp2_with fail
    refine (awake24 _).mono ?_
    rintro e w1 ⟨rfl, hB1⟩
    go_wp2_with fail
    refine (awake24 _).mono ?_
    rintro e w2 ⟨rfl, hB2⟩
    go_wp2_with fail
    go_ret
    exact ⟨rfl, hB1.trans (hB2.mono hB1.size)⟩
  · have g1 : decide ((s.size : Int) > 400) = false := decide_eq_false (by omega)
    have g1N : ¬ (400 < s.size) := by omega
    have g2 : decide ((m.size : Int) > 400) = false := decide_eq_false (by omega)
    have g2N : ¬ (400 < m.size) := by omega
    have g3 : ((s.size : Int) == 0) = false := by rw [beq_eq_false_iff_ne]; omega
    have g4 : (((s[s.size - 1]'hbd).toNat : Int) == 10) = false := by rw [beq_eq_false_iff_ne]; omega
    have hl1 : (0 : Int) ≤ (s.size : Int) - 1 := by omega
    have hl2 : (s.size : Int) - 1 < (s.size : Int) := by omega
    have hl3 : IntKind.i64.wrap ((s.size : Int) - 1) = (s.size : Int) - 1 := by rw [IntKind.wrap_i64]; omega
    have hl4 : ((s.size : Int) - 1).toNat = s.size - 1 := by omega
    have HA := hid (fun W => records_few s 9 (by omega) (by omega) (by omega) (nb s) rfl W)
    have HB := hid (fun W => records_few m 9 (by omega) (by omega) (by omega) (nb m) rfl W)
    have hcat : nb (s ++ { data := #[10] } ++ m) = nb s ++ 10 :: nb m := by rw [nb_append, nb_append, List.append_assoc]; rfl
    have HC := hid (fun W => records_few (s ++ { data := #[10] } ++ m) 9 (by have := nb_length (s ++ { data := #[10] } ++ m); rw [hcat, two_len, HL.out, HLM.out] at this; omega) (by omega) (by omega) (nb s ++ 10 :: nb m) hcat W)
    rw [recs_both (nb s) (nb m) 9 (by rw [HL.out]; exact h3) (by rw [HL.out, at_nb s _ hbd]; exact h4), HL.out] at HC
    have hx4 : (recs (nb s) 9).length ≤ 400 := by unfold recs; rw [List.length_map]; have := spans_length (nb s); rw [HL.out] at this; omega
    have hy4 : (recs (nb m) 9).length ≤ 400 := by unfold recs; rw [List.length_map]; have := spans_length (nb m); rw [HLM.out] at this; omega
    have hyb : ∀ r ∈ recs (nb m) 9, r.a ≤ 400 ∧ r.b ≤ 400 := fun r hr => by
      unfold recs at hr
      obtain ⟨p, hp, rfl⟩ := List.mem_map.1 hr
      have := spans_in hp
      rw [HLM.out] at this
      show p.1 ≤ 400 ∧ p.2 ≤ 400
      omega
    have hx0 : 0 < (recs (nb s) 9).length := by unfold recs; rw [List.length_map, spans_eq, spnA_step (by rw [HL.out]; exact h3)]; simp
    generalize recs (nb s) 9 = xs at *
    generalize recs (nb m) 9 = ys at *
    have HYB := hid hyb
    obtain ⟨q, hq⟩ : ∃ q, q = s.size + 1 := ⟨_, rfl⟩
    have hqI : (s.size : Int) + 1 = (q : Int) := by omega
    have hqW : IntKind.i64.wrap (q : Int) = (q : Int) := by rw [IntKind.wrap_i64]; omega
    have hq4 : q ≤ 401 := by omega
    rw [← hq] at HC
    have hlen : (xs ++ ys.map (shR q)).length = xs.length + ys.length := by rw [List.length_append, List.length_map]
    rw [hlen] at HC
    clear h4 hyb hcat hq
    go_enter Try.func11, Try.ntmps11
    go_wp2_with fail
    refine (awake24 _).mono ?_
    rintro e w1 ⟨rfl, hB1⟩
    go_wp2_with fail
    refine (HA.out _).mono ?_
    rintro e w2 ⟨A, c, rfl, hlA, _, hB2⟩
    have hBB2 := hB1.trans (hB2.mono hB1.size)
    go_wp2_with fail
    refine (HB.out _).mono ?_
    rintro e w3 ⟨A3, c3, rfl, hlB, _, hB3⟩
    have hBB3 := hBB2.trans (hB3.mono hBB2.size)
    have hlA3 := hlA.below hB3
    go_wp2_with fail
    refine (HC.out _).mono ?_
    rintro e w4 ⟨A4, c4, rfl, hlC, _, hB4⟩
    have hBB4 := hBB3.trans (hB4.mono hBB3.size)
    have hlA4 := hlA3.below hB4
    have hlB4 := hlB.below hB4
    have hne : ((((xs.length + ys.length : Nat) : Int)) != (xs.length : Int) + (ys.length : Int)) = false := by rw [bne_eq_false_iff_eq]; omega
    clear hB1 hB2 hB3 hB4 hBB2 hBB3 hlA hlB hlA3 g1 g1N g2 g2N g3 g4
    go_wp2_with fail
    go_loopw [5, 11] (fun lv iv wr => ∃ (j : Nat) (A' : Option Addr) (c' : Nat), iv = .int .i64 (j : Nat) ∧ lv = .slice A' (xs.length + j) c' ∧ j ≤ ys.length ∧ Lst wr A' (recC (xs ++ (ys.take j).map (shR q))) ∧ Below w4.heap.size w4 wr) (fun _ iv _ => ys.length - (intOf iv).toNat)
    case atStart => exact ⟨0, A, c, rfl, rfl, by omega, by simpa using hlA4, Below.refl _ _⟩
    case round =>
      obtain ⟨j, A', c', rfl, rfl, hj, hl, hB⟩ := hrel
      have hszr := hB.size
      rcases Nat.lt_or_ge j ys.length with hlt | hge
      · have hji : (j : Int) < (ys.length : Int) := by omega
        have hji2 : decide ((j : Int) < (ys.length : Int)) = true := decide_eq_true hji
        have hj0 : (0 : Int) ≤ (j : Int) := by omega
        have hjW := wrap_one j (by omega)
        obtain ⟨g, o, rfl, k0, k1, k2, k3⟩ := rec_cells (hlB4.below hB) hlt
        have hrb := HYB.out ys[j] (List.getElem_mem hlt)
        have HT := hid (show xs ++ (ys.take (j + 1)).map (shR q) = (xs ++ (ys.take j).map (shR q)) ++ [shR q ys[j]] by rw [List.take_succ_eq_append_getElem hlt, List.map_append, List.append_assoc]; rfl)
        generalize ys[j] = r at *
        obtain ⟨ra, hra⟩ : ∃ ra, ra = r.a + q := ⟨_, rfl⟩
        obtain ⟨rb, hrb2⟩ : ∃ rb, rb = r.b + q := ⟨_, rfl⟩
        have raI : (r.a : Int) + (q : Int) = (ra : Int) := by omega
        have rbI : (r.b : Int) + (q : Int) = (rb : Int) := by omega
        have raW : IntKind.i64.wrap (ra : Int) = (ra : Int) := by rw [IntKind.wrap_i64]; omega
        have rbW : IntKind.i64.wrap (rb : Int) = (rb : Int) := by rw [IntKind.wrap_i64]; omega
        have HR := hid (show shR q r = ⟨ra, rb, r.v, r.p⟩ by unfold shR; rw [hra, hrb2])
        have hll : (recC (xs ++ (ys.take j).map (shR q))).length = (xs.length + j) * 4 := by rw [recC_length, List.length_append, List.length_map, List.length_take]; congr 2; omega
        obtain ⟨g', o', rfl, hg', _⟩ := hl.lit (by rw [hll]; omega)
        have HLW := hid (fun W (hW : Below wr.heap.size wr W) => hl.below hW)
        have HONE := hid (show ∀ u ∈ recC (xs ++ (ys.take j).map (shR q)), u.oneCell' = true from fun u hu => by
          unfold recC at hu
          obtain ⟨x, _, hx⟩ := List.mem_flatMap.1 hu
          unfold recV at hx
          simp only [List.mem_cons, List.not_mem_nil, or_false] at hx
          rcases hx with rfl | rfl | rfl | rfl <;> rfl)
        generalize hL0 : recC (xs ++ (ys.take j).map (shR q)) = L0 at *
        have HL0 := hid hL0
        clear hL0
        clear hra hrb2 hrb
        go_wp2_with fail
        have hBX : Below wr.heap.size wr (wr.alloc (.cells #[.int .i64 (ra : Nat), .int .i64 (rb : Nat), .int .i64 (r.v : Nat), .int .i64 (r.p : Nat)] 47)) := (Below.refl _ _).alloc (Nat.le_refl _) _
        have bX := BlkIs.new wr 47 #[.int .i64 (ra : Nat), .int .i64 (rb : Nat), .int .i64 (r.v : Nat), .int .i64 (r.p : Nat)]
        generalize hWx : wr.alloc (.cells #[.int .i64 (ra : Nat), .int .i64 (rb : Nat), .int .i64 (r.v : Nat), .int .i64 (r.p : Nat)] 47) = Wx at *
        clear hWx
        have hszx := hBX.size
        have HLX := hid (fun W (hW : Below Wx.heap.size Wx W) => HLW.out W (hBX.trans (hW.mono hszx)))
        have hltx := bX.lt
        have x0 := bX.cell 0
        have x1 := bX.cell 1
        have x2 := bX.cell 2
        have x3 := bX.cell 3
        go_region_law (first
          | (refine step_append_lies _ (by rfl) (.tmp 105) (.tmp 106) _ (by rfl) Wx.heap.size 47 i0 _ 4 32 Try.underlying36 hi hz0 hz1 hz2 rfl (by omega) (.slice (some ⟨Wx.heap.size, 0, none⟩) 0 0) 0 [] (by rfl) (own_empty4 Wx _ _ _ rfl (Nat.le_refl _)) ⟨g', o', none⟩ (xs.length + j) c' L0 (by rfl) hll (fun j u hu => (HLX.out _ ((Below.refl Wx.heap.size Wx).alloc (Nat.le_refl _) _)).addr hu) HONE.out (by omega) (by simp only [maxLen]; omega) (by omega) (by simp <;> omega) _ rfl ?_
             intro g1 cap1 w5 hown5 hgr5 hat5 hlt5
             rw [Nat.zero_add, List.nil_append] at hown5
             have bX5 : BlkIs w5 wr.heap.size 47 #[.int .i64 (ra : Nat), .int .i64 (rb : Nat), .int .i64 (r.v : Nat), .int .i64 (r.p : Nat)] := BlkIs.kept (bX.alloc _) (hgr5.block wr.heap.size (by simp <;> omega) (by simp [Value.ownBlock] <;> omega))
             have y0 := bX5.cell 0
             have y1 := bX5.cell 1
             have y2 := bX5.cell 2
             have y3 := bX5.cell 3
             have hb5 : Below Wx.heap.size Wx w5 := Below.grown (Below.drew ((Below.refl Wx.heap.size Wx).alloc (Nat.le_refl _) _)) hgr5 (by simp <;> omega) (fun k hk => by simp [Value.ownBlock] at hk; omega)
             have hs5 : Wx.heap.size ≤ w5.heap.size := Nat.le_trans (by simp <;> omega) hgr5.size)
          | (refine step_append_lies _ (by rfl) (.tmp 105) (.tmp 106) _ (by rfl) Wx.heap.size 47 i0 _ 4 32 Try.underlying36 hi hz0 hz1 hz2 rfl (by omega) (.slice (some ⟨(Wx.heap.size + 1), 0, none⟩) 0 0) 0 [] (by rfl) (own_empty4 (Wx.alloc _) _ _ _ (by simp) (by simp)) ⟨g', o', none⟩ (xs.length + j) c' L0 (by rfl) hll (fun j u hu => (HLX.out _ (((Below.refl Wx.heap.size Wx).alloc (Nat.le_refl _) _).alloc (by simp) _)).addr hu) HONE.out (by omega) (by simp only [maxLen]; omega) (by omega) (by simp <;> omega) _ rfl ?_
             intro g1 cap1 w5 hown5 hgr5 hat5 hlt5
             rw [Nat.zero_add, List.nil_append] at hown5
             have bX5 : BlkIs w5 wr.heap.size 47 #[.int .i64 (ra : Nat), .int .i64 (rb : Nat), .int .i64 (r.v : Nat), .int .i64 (r.p : Nat)] := BlkIs.kept ((bX.alloc _).alloc _) (hgr5.block wr.heap.size (by simp <;> omega) (by simp [Value.ownBlock] <;> omega))
             have y0 := bX5.cell 0
             have y1 := bX5.cell 1
             have y2 := bX5.cell 2
             have y3 := bX5.cell 3
             have hb5 : Below Wx.heap.size Wx w5 := Below.grown (Below.drew (((Below.refl Wx.heap.size Wx).alloc (Nat.le_refl _) _).alloc (by simp) _)) hgr5 (by simp <;> omega) (fun k hk => by simp [Value.ownBlock] at hk; omega)
             have hs5 : Wx.heap.size ≤ w5.heap.size := Nat.le_trans (by simp <;> omega) hgr5.size
             have bZ : BlkIs w5 Wx.heap.size 47 #[.int .i64 (ra : Nat), .int .i64 (rb : Nat), .int .i64 (r.v : Nat), .int .i64 (r.p : Nat)] := BlkIs.kept ((BlkIs.new Wx _ _).alloc _) (hgr5.block _ (by simp <;> omega) (by simp [Value.ownBlock] <;> omega)))
          | (refine step_append_lies _ (by rfl) (.tmp 107) (.tmp 109) _ (by rfl) Wx.heap.size 47 i0 _ 4 32 Try.underlying36 hi hz0 hz1 hz2 rfl (by omega) (.slice (some ⟨g1, 0, none⟩) (xs.length + j) cap1) (xs.length + j) _ (by rfl) hown5 ⟨Wx.heap.size + 1, 0, none⟩ 1 1 [.int .i64 (ra : Nat), .int .i64 (rb : Nat), .int .i64 (r.v : Nat), .int .i64 (r.p : Nat)] (by rfl) rfl (fun j u hu => by rw [add_zero_, bZ.cell j]; simpa using hu) (by simp [Value.oneCell']) (by omega) (by simp only [maxLen]; omega) (by omega) (by first | exact hs5 | (simp; omega)) _ rfl ?_
             intro g2 cap2 w6 hown6 hgr6 hat6 hlt6)
          | (refine step_append_lies _ (by rfl) (.tmp 107) (.tmp 109) _ (by rfl) Wx.heap.size 47 i0 _ 4 32 Try.underlying36 hi hz0 hz1 hz2 rfl (by omega) (.slice (some ⟨g1, 0, none⟩) (xs.length + j) cap1) (xs.length + j) _ (by rfl) hown5 ⟨Wx.heap.size, 0, none⟩ 1 1 [.int .i64 (ra : Nat), .int .i64 (rb : Nat), .int .i64 (r.v : Nat), .int .i64 (r.p : Nat)] (by rfl) rfl (fun j u hu => by rw [add_zero_, bZ.cell j]; simpa using hu) (by simp [Value.oneCell']) (by omega) (by simp only [maxLen]; omega) (by omega) (by first | exact hs5 | (simp; omega)) _ rfl ?_
             intro g2 cap2 w6 hown6 hgr6 hat6 hlt6)
          | (refine step_append_lies _ (by rfl) (.tmp 107) (.tmp 109) _ (by rfl) Wx.heap.size 47 i0 _ 4 32 Try.underlying36 hi hz0 hz1 hz2 rfl (by omega) (.slice (some ⟨g1, 0, none⟩) (xs.length + j) cap1) (xs.length + j) _ (by rfl) (hown5.alloc _) ⟨w5.heap.size, 0, none⟩ 1 1 [.int .i64 (ra : Nat), .int .i64 (rb : Nat), .int .i64 (r.v : Nat), .int .i64 (r.p : Nat)] (by rfl) rfl (cell_four_at _ _ _ _ _ _ _ rfl) (by simp [Value.oneCell']) (by omega) (by simp only [maxLen]; omega) (by omega) (by first | exact hs5 | (simp; omega)) _ rfl ?_
             intro g2 cap2 w6 hown6 hgr6 hat6 hlt6)
          | (refine step_append_lies _ (by rfl) (.tmp 105) (.tmp 106) _ (by rfl) Wx.heap.size 47 i0 _ 4 32 Try.underlying36 hi hz0 hz1 hz2 rfl (by omega) (.slice (some ⟨Wx.heap.size, 0, none⟩) 0 0) 0 [] (by rfl) ((own_empty4 Wx _ _ _ rfl (Nat.le_refl _)).alloc _) ⟨g', o', none⟩ (xs.length + j) c' L0 (by rfl) hll (fun j u hu => (HLX.out _ (((Below.refl Wx.heap.size Wx).alloc (Nat.le_refl _) _).alloc (by simp) _)).addr hu) HONE.out (by omega) (by simp only [maxLen]; omega) (by omega) (by simp <;> omega) _ rfl ?_
             intro g1 cap1 w5 hown5 hgr5 hat5 hlt5
             rw [Nat.zero_add, List.nil_append] at hown5
             have bX5 : BlkIs w5 wr.heap.size 47 #[.int .i64 (ra : Nat), .int .i64 (rb : Nat), .int .i64 (r.v : Nat), .int .i64 (r.p : Nat)] := BlkIs.kept ((bX.alloc _).alloc _) (hgr5.block wr.heap.size (by simp <;> omega) (by simp [Value.ownBlock] <;> omega))
             have y0 := bX5.cell 0
             have y1 := bX5.cell 1
             have y2 := bX5.cell 2
             have y3 := bX5.cell 3
             have hb5 : Below Wx.heap.size Wx w5 := Below.grown (Below.drew (((Below.refl Wx.heap.size Wx).alloc (Nat.le_refl _) _).alloc (by simp) _)) hgr5 (by simp <;> omega) (fun k hk => by simp [Value.ownBlock] at hk; omega)
             have hs5 : Wx.heap.size ≤ w5.heap.size := Nat.le_trans (by simp <;> omega) hgr5.size
             have bZ : BlkIs w5 (Wx.heap.size + 1) 47 #[.int .i64 (ra : Nat), .int .i64 (rb : Nat), .int .i64 (r.v : Nat), .int .i64 (r.p : Nat)] := BlkIs.kept (show BlkIs ((Wx.alloc (.cells #[] 47)).alloc (.cells #[.int .i64 (ra : Nat), .int .i64 (rb : Nat), .int .i64 (r.v : Nat), .int .i64 (r.p : Nat)] 47)) (Wx.heap.size + 1) _ _ from by have := BlkIs.new (Wx.alloc (.cells #[] 47)) 47 #[.int .i64 (ra : Nat), .int .i64 (rb : Nat), .int .i64 (r.v : Nat), .int .i64 (r.p : Nat)]; rwa [World.size_alloc] at this) (hgr5.block _ (by simp <;> omega) (by simp [Value.ownBlock] <;> omega))))
        all_goals go_simp
        all_goals go_wp2_with fail
        all_goals
          have hb6 : Below Wx.heap.size Wx w6 := by
            first
              | exact Below.grown hb5 hgr6 hs5 (fun k hk => (hown5.lt k hk).1)
              | exact Below.grown (Below.drew hb5) hgr6 hs5 (fun k hk => (hown5.lt k hk).1)
              | (refine Below.grown (hb5.alloc hs5 _) hgr6 ?_ (fun k hk => (hown5.lt k hk).1); simp; omega)
              | (refine Below.grown (Below.drew (hb5.alloc hs5 _)) hgr6 ?_ (fun k hk => (hown5.lt k hk).1); simp; omega)
          go_roundw
          case rel => exact ⟨j + 1, some ⟨g2, 0, none⟩, cap2, by go_num, by rw [Nat.add_assoc], by omega, by rw [HT.out, recC_snoc, HL0.out, HR.out]; exact own_lst2 hown6 (by omega), hB.trans ((hBX.trans (hb6.mono hszx)).mono hszr)⟩
          case measure => simp [intOf]; omega
      · obtain rfl : j = ys.length := by omega
        rw [List.take_length] at hl
        have HS := hid (same_true A' A4 c' c4 (xs ++ ys.map (shR q)) wr hl (hlC.below hB) (by rw [hlen]; omega))
        rw [hlen] at HS
        have hBB := hBB4.trans (hB.mono hBB4.size)
        go_wp2_with fail
        refine HS.out.mono ?_
        rintro e w5 ⟨rfl, mm, rfl⟩
        go_wp2_with fail
        go_ret
        exact ⟨rfl, below_drewN hBB _⟩

end Go.Proofs.Ytegoephanphnkaa
