/- Walks: the word of a bit; the place of a 1, and of a 0. -/
import Derived.Test.YtlpnbkfcbamnbaaDoorChooseB
set_option linter.unusedVariables false
set_option linter.unusedSimpArgs false
set_option maxRecDepth 100000
namespace Go.Proofs.YtlpnbkfcbamnbaaDoor
open Go.RowKit Go.Shelf L

theorem natCells_get {l : List Nat} {i x : Nat} (h : l[i]? = some x) : (natCells l)[i]? = some (.int .i64 (x : Nat)) := by rw [natCells, List.getElem?_map, h]; rfl

theorem bcells {W w1 : World} (hb : Below W.heap.size W w1) : ∀ b o, b < W.heap.size → w1.cell? ⟨b, o, none⟩ = W.cell? ⟨b, o, none⟩ := fun b o h => hb.cell (p := ⟨b, o, none⟩) h

set_option maxHeartbeats 4000000 in
theorem find_choose (t : Bool) (g gd gx : Nat) (A : Option Addr) (c : Nat) (bs : List Bool) (Ad : Option Addr) (cd : Nat) (Al : Option Addr) (cl nn : Nat) (l : List Nat) (k : Nat) (w : World)
    (hg : w.cell? ⟨g, 0, none⟩ = some (.pointer (some ⟨gd, 0, none⟩))) (hgl : g < w.heap.size) (hd : DirAt w gd gx A c bs Ad cd) (hl : Lst w Al (natCells l)) (hh : Half t bs bs.length l) (hk : k < kc t bs bs.length) :
    Calls Tryd.prog 111 #[.pointer (some ⟨g, 0, none⟩), .agg #[.slice Al l.length cl, .int .i64 (nn : Nat)], .int .i64 (k : Nat), ahead t gd] w fun e w' =>
      ∃ q : Nat, e = .returned (.tuple #[.int .i64 (q : Nat), .int .i64 (k - kc t bs (64 * q) : Nat)]) ∧ kc t bs (64 * q) ≤ k ∧ k < kc t bs (64 * q + 64) ∧ Below w.heap.size w w' := by
  have hsm := hd.row.small
  have hkl := kc_le t bs bs.length
  have hll := hh.1
  obtain ⟨x, hx, hxl, hxk⟩ := half_low hh k hk
  obtain ⟨m, hm⟩ : ∃ m, m = k / 256 := ⟨_, rfl⟩
  have e1 : (k : Int) / 256 = (m : Int) := by omega
  have hml : m < l.length := by omega
  have hmi : (m : Int) < (l.length : Int) := by omega
  obtain ⟨ab, ao, rfl, had, hcl⟩ := hl.lit (by rw [natCells_length]; omega)
  have wc0 := hcl _ _ (natCells_get (by rw [← hm] at hx; exact hx))
  obtain ⟨hi, hhi, hhk⟩ : ∃ hi : Nat, (hi = if m + 1 < l.length then (l[m + 1]?.getD 0 + 1) * 512 else bs.length) ∧ k < kc t bs hi ∧ hi ≤ bs.length + 512 := by
    refine ⟨_, rfl, ?_⟩
    by_cases h : m + 1 < l.length
    · rw [if_pos h]
      obtain ⟨y, hy⟩ : ∃ y, l[m + 1]? = some y := ⟨_, List.getElem?_eq_getElem h⟩
      have := half_high hh k y (by rw [← hm]; exact hy)
      rw [hy]
      simp only [Option.getD_some]
      rw [Nat.mul_comm]
      exact ⟨this.1, by omega⟩
    · rw [if_neg h]; exact ⟨hk, by omega⟩
  have hlt : 512 * x < hi := by
    rcases Nat.lt_or_ge (512 * x) hi with h | h
    · exact h
    · have := kc_mono t bs h; omega
  have HSE := hid (fun b7 b10 b6 low n W => search_any t gd gx A c bs Ad cd b7 b10 b6 low k n W)
  have HAH := hid (fun i W hW => ahead_any t gd gx A c bs Ad cd i W hW)
  have hce : ∀ args W, (callFunc (if t then 112 else 133) args).run Tryd.prog W = .ok (.enter (if t then 112 else 133) args) W := by
    cases t
    · exact enters_of Tryd.func133 (by kernel_rfl) rfl
    · exact enters_of Tryd.func112 (by kernel_rfl) rfl
  unfold ahead at *
  generalize (if t then 112 else 133) = fa at *
  have HX := hid (And.intro hx (And.intro hhi hll))
  clear hx hhi hm hll
  obtain ⟨low, hlow⟩ : ∃ low, low = 512 * x := ⟨_, rfl⟩
  have x1 : (x : Int) * 512 = (low : Int) := by omega
  have HLOW := hid hlow
  clear hlow
  have hB3 : Below w.heap.size w (((w.alloc (.cells #[.slice (some ⟨ab, ao, none⟩) l.length cl, .int .i64 (nn : Nat)] 123)).alloc (.cells #[.int .i64 (k : Nat)] 3)).alloc (.cells #[.func (.func fa) #[.pointer (some ⟨gd, 0, none⟩)] #[]] 32)) :=
    (((Below.refl _ _).alloc (Nat.le_refl _) _).alloc (by simp) _).alloc (by simp; omega) _
  have hB4 := hB3.alloc hB3.size (.cells #[.int .i64 (low : Nat)] 3)
  have hc3 := bcells hB3
  have hc4 := bcells hB4
  have hd4 := hd.below hB4
  have hr4 := hd4.row
  have hcl4 := hr4.cells.2
  have hlow2 : low < hi := by have := HLOW.out; omega
  have hlow3 : low ≤ 4294967296 := by have := HLOW.out; omega
  have hhi3 : hi ≤ 4294967808 := by omega
  obtain ⟨nn2, hnn2⟩ : ∃ n, n = (hi - low + 63) / 64 := ⟨_, rfl⟩
  have x3 : ((hi : Int) - (low : Int) + 64 - 1) / 64 = (nn2 : Int) := by omega
  have hnn3 : nn2 ≤ 67108900 := by omega
  have HNN := hid hnn2
  obtain ⟨lw, hlw⟩ : ∃ n, n = low / 64 := ⟨_, rfl⟩
  have x4 : (low : Int) / 64 = (lw : Int) := by omega
  have HLW := hid hlw
  clear hnn2 hlw
  have hmf : ∀ (fn : Fn) (first cap : Array Value) (w : World), (Instr.makeFunc fn first cap).run Tryd.prog w = .ok (.func fn first cap) w := fun _ _ _ _ => rfl
  have hz4 : (((( w.alloc (.cells #[.slice (some ⟨ab, ao, none⟩) l.length cl, .int .i64 (nn : Nat)] 123)).alloc (.cells #[.int .i64 (k : Nat)] 3)).alloc (.cells #[.func (.func fa) #[.pointer (some ⟨gd, 0, none⟩)] #[]] 32)).alloc (.cells #[.int .i64 (low : Nat)] 3)).heap.size = w.heap.size + 1 + 1 + 1 + 1 := by simp
  have B7 : BlkIs ((((w.alloc (.cells #[.slice (some ⟨ab, ao, none⟩) l.length cl, .int .i64 (nn : Nat)] 123)).alloc (.cells #[.int .i64 (k : Nat)] 3)).alloc (.cells #[.func (.func fa) #[.pointer (some ⟨gd, 0, none⟩)] #[]] 32)).alloc (.cells #[.int .i64 (low : Nat)] 3)) (w.heap.size + 1 + 1) 32 #[.func (.func fa) #[.pointer (some ⟨gd, 0, none⟩)] #[]] := by
    have := (BlkIs.new ((w.alloc (.cells #[.slice (some ⟨ab, ao, none⟩) l.length cl, .int .i64 (nn : Nat)] 123)).alloc (.cells #[.int .i64 (k : Nat)] 3)) 32 #[.func (.func fa) #[.pointer (some ⟨gd, 0, none⟩)] #[]]).alloc (.cells #[.int .i64 (low : Nat)] 3)
    simpa using this
  have B6 : BlkIs ((((w.alloc (.cells #[.slice (some ⟨ab, ao, none⟩) l.length cl, .int .i64 (nn : Nat)] 123)).alloc (.cells #[.int .i64 (k : Nat)] 3)).alloc (.cells #[.func (.func fa) #[.pointer (some ⟨gd, 0, none⟩)] #[]] 32)).alloc (.cells #[.int .i64 (low : Nat)] 3)) (w.heap.size + 1) 3 #[.int .i64 (k : Nat)] := by
    have := ((BlkIs.new (w.alloc (.cells #[.slice (some ⟨ab, ao, none⟩) l.length cl, .int .i64 (nn : Nat)] 123)) 3 #[.int .i64 (k : Nat)]).alloc (.cells #[.func (.func fa) #[.pointer (some ⟨gd, 0, none⟩)] #[]] 32)).alloc (.cells #[.int .i64 (low : Nat)] 3)
    simpa using this
  have B10 : BlkIs ((((w.alloc (.cells #[.slice (some ⟨ab, ao, none⟩) l.length cl, .int .i64 (nn : Nat)] 123)).alloc (.cells #[.int .i64 (k : Nat)] 3)).alloc (.cells #[.func (.func fa) #[.pointer (some ⟨gd, 0, none⟩)] #[]] 32)).alloc (.cells #[.int .i64 (low : Nat)] 3)) (w.heap.size + 1 + 1 + 1) 3 #[.int .i64 (low : Nat)] := by
    have := BlkIs.new (((w.alloc (.cells #[.slice (some ⟨ab, ao, none⟩) l.length cl, .int .i64 (nn : Nat)] 123)).alloc (.cells #[.int .i64 (k : Nat)] 3)).alloc (.cells #[.func (.func fa) #[.pointer (some ⟨gd, 0, none⟩)] #[]] 32)) 3 #[.int .i64 (low : Nat)]
    simpa using this
  by_cases hm1 : m + 1 < l.length
  · obtain ⟨y, hy⟩ : ∃ y, l[m + 1]? = some y := ⟨_, List.getElem?_eq_getElem hm1⟩
    have wc1 := hcl _ _ (natCells_get hy)
    have x5 : ((y : Int) + 1) * 512 = (hi : Int) := by
      have h := HX.out.2.1
      rw [if_pos hm1, hy] at h
      simp only [Option.getD_some] at h
      omega
    have hmi2 : (m : Int) + 1 < (l.length : Int) := by omega
    clear hy hcl
    go_enter Tryd.func111, Tryd.ntmps111
    go_wp2_with fail
    refine (rankRow_any _ _ _ _ _ _ _ _ hd4).mono ?_
    rintro e w' ⟨rfl, rfl⟩
    go_wp2_with fail
    refine (rlen_any _ _ _ hcl4).mono ?_
    rintro e w' ⟨rfl, rfl⟩
    go_wp2_with fail
    refine (HSE.out (w.heap.size + 1 + 1) (w.heap.size + 1 + 1 + 1) (w.heap.size + 1) low nn2 _ hd4 (by exact B7.cell 0) (by exact B10.cell 0) (by exact B6.cell 0) B7.lt B10.lt B6.lt hlow3 hnn3).mono ?_
    rintro e w5 ⟨r, rfl, hr1, hr2, hr3, hB5⟩
    have hd5 := hd4.below hB5
    have c7 := (B7.below hB5).cell 0
    have c6 := (B6.below hB5).cell 0
    have c10 := (B10.below hB5).cell 0
    simp only [List.getElem?_toArray, List.getElem?_cons_zero] at c7 c6 c10
    have hlw := HLW.out
    have hnn2 := HNN.out
    have hLOW := HLOW.out
    have hrn : r < nn2 := by
      rcases Nat.lt_or_ge r nn2 with h | h
      · exact h
      · exfalso
        have hrr : r = nn2 := by omega
        rcases hr2 with h0 | h0
        · omega
        · have := kc_mono t bs (show hi ≤ low + r * 64 by omega)
          omega
    have hk1 : kc t bs (64 * (lw + r)) ≤ k := by
      rw [show 64 * (lw + r) = low + r * 64 from by omega]
      rcases hr2 with h0 | h0
      · rw [h0, hLOW, Nat.zero_mul, Nat.add_zero]; exact hxk
      · exact h0
    have hk2 : k < kc t bs (64 * (lw + r) + 64) := by
      rw [show 64 * (lw + r) + 64 = low + (r + 1) * 64 from by omega]
      rcases hr3 with h0 | h0
      · omega
      · exact h0
    obtain ⟨q, hq⟩ : ∃ q, q = lw + r := ⟨_, rfl⟩
    have hqp : 64 * q = low + r * 64 := by omega
    rw [← hq] at hk1 hk2
    obtain ⟨pp, hpp⟩ : ∃ pp, pp = 64 * q := ⟨_, rfl⟩
    rw [← hpp] at hk1 hk2
    have y0 : (lw : Int) + (r : Int) = (q : Int) := by omega
    have y1 : (low : Int) + (r : Int) * 64 = (pp : Int) := by omega
    have y2 : IntKind.i64.wrap ((r : Int) * 64) = (r : Int) * 64 := by rw [IntKind.wrap_i64]; omega
    have y3 : IntKind.i64.wrap (pp : Int) = (pp : Int) := by rw [IntKind.wrap_i64]; omega
    have y4 : IntKind.i64.wrap (q : Int) = (q : Int) := by rw [IntKind.wrap_i64]; omega
    have y5 : IntKind.i64.wrap ((k : Int) - (kc t bs pp : Nat)) = (k : Int) - (kc t bs pp : Nat) := by rw [IntKind.wrap_i64]; omega
    have y6 : (k : Int) - (kc t bs pp : Nat) = ((k - kc t bs pp : Nat) : Int) := by omega
    have y7 : IntKind.i64.wrap (lw : Int) = (lw : Int) := by rw [IntKind.wrap_i64]; omega
    have y8 : IntKind.i64.wrap ((k - kc t bs pp : Nat) : Int) = ((k - kc t bs pp : Nat) : Int) := by rw [IntKind.wrap_i64]; omega
    have HPP := hid hpp
    have HK1 := hid hk1
    have HK2 := hid hk2
    clear hpp hqp hq hlw hnn2 hLOW hk1 hk2 hr2 hr3
    have C1 := hid (fun W (hW : Below w5.heap.size w5 W) => show Calls Tryd.prog fa #[.pointer (some ⟨gd, 0, none⟩), .int .i64 (pp : Nat)] W (fun e w' => e = .returned (.int .i64 (kc t bs pp : Nat)) ∧ Below w5.heap.size w5 w') from
      (HAH.out pp W (hd5.below hW)).mono (fun e w' ⟨he, hb⟩ => ⟨he, hW.trans (hb.mono hW.size)⟩))
    have KC := hid (show ∀ W, Below w5.heap.size w5 W → W.cell? ⟨w.heap.size + 1 + 1, 0, none⟩ = some (.func (.func fa) #[.pointer (some ⟨gd, 0, none⟩)] #[]) ∧ W.cell? ⟨w.heap.size + 1 + 1 + 1, 0, none⟩ = some (.int .i64 (low : Nat)) ∧ W.cell? ⟨w.heap.size + 1, 0, none⟩ = some (.int .i64 (k : Nat)) from fun W hW =>
      ⟨(hW.cell (p := ⟨w.heap.size + 1 + 1, 0, none⟩) (B7.below hB5).lt).trans c7, (hW.cell (p := ⟨w.heap.size + 1 + 1 + 1, 0, none⟩) (B10.below hB5).lt).trans c10, (hW.cell (p := ⟨w.heap.size + 1, 0, none⟩) (B6.below hB5).lt).trans c6⟩)
    have hBr := Below.refl w5.heap.size w5
    have hBall : Below w.heap.size w w5 := hB4.trans (hB5.mono hB4.size)
    have hzz := hBall.size
    generalize hkk : kc t bs pp = kk at *
    have HKK := hid hkk
    clear hkk
    go_wp2_with fail
    go_region_held3 (fun w' => Below w5.heap.size w5 w' ∧ w'.cell? ⟨w.heap.size + 1 + 1, 0, none⟩ = some (.func (.func fa) #[.pointer (some ⟨gd, 0, none⟩)] #[]) ∧ w'.cell? ⟨w.heap.size + 1 + 1 + 1, 0, none⟩ = some (.int .i64 (low : Nat)) ∧ w'.cell? ⟨w.heap.size + 1, 0, none⟩ = some (.int .i64 (k : Nat)))
      (first | exact ⟨hBr.drew, c7, c10, c6⟩ | exact ⟨e1, KC.out _ e1⟩ | assumption)
      (first
       | (refine (C1.out _ (by first | assumption | exact And.left (by assumption))).mono ?_; rintro e w6 ⟨rfl, e1⟩))
    all_goals go_wp2
    all_goals go_ret2
    all_goals
      exact ⟨q, by rw [← HPP.out, HKK.out]; rfl, by rw [← HPP.out, HKK.out]; exact HK1.out, by rw [← HPP.out]; exact HK2.out, hBall.trans (Below.mono (by first | exact e1 | assumption | exact And.left (by assumption)) hzz)⟩
  · have x5 : (bs.length : Int) = (hi : Int) := by
      have h := HX.out.2.1
      rw [if_neg hm1] at h
      omega
    have hmi2 : ¬ ((m : Int) + 1 < (l.length : Int)) := by omega
    clear hcl
    go_enter Tryd.func111, Tryd.ntmps111
    go_wp2_with fail
    refine (rankRow_any _ _ _ _ _ _ _ _ hd4).mono ?_
    rintro e w' ⟨rfl, rfl⟩
    go_wp2_with fail
    refine (rlen_any _ _ _ hcl4).mono ?_
    rintro e w' ⟨rfl, rfl⟩
    go_wp2_with fail
    refine (HSE.out (w.heap.size + 1 + 1) (w.heap.size + 1 + 1 + 1) (w.heap.size + 1) low nn2 _ hd4 (by exact B7.cell 0) (by exact B10.cell 0) (by exact B6.cell 0) B7.lt B10.lt B6.lt hlow3 hnn3).mono ?_
    rintro e w5 ⟨r, rfl, hr1, hr2, hr3, hB5⟩
    have hd5 := hd4.below hB5
    have c7 := (B7.below hB5).cell 0
    have c6 := (B6.below hB5).cell 0
    have c10 := (B10.below hB5).cell 0
    simp only [List.getElem?_toArray, List.getElem?_cons_zero] at c7 c6 c10
    have hlw := HLW.out
    have hnn2 := HNN.out
    have hLOW := HLOW.out
    have hrn : r < nn2 := by
      rcases Nat.lt_or_ge r nn2 with h | h
      · exact h
      · exfalso
        have hrr : r = nn2 := by omega
        rcases hr2 with h0 | h0
        · omega
        · have := kc_mono t bs (show hi ≤ low + r * 64 by omega)
          omega
    have hk1 : kc t bs (64 * (lw + r)) ≤ k := by
      rw [show 64 * (lw + r) = low + r * 64 from by omega]
      rcases hr2 with h0 | h0
      · rw [h0, hLOW, Nat.zero_mul, Nat.add_zero]; exact hxk
      · exact h0
    have hk2 : k < kc t bs (64 * (lw + r) + 64) := by
      rw [show 64 * (lw + r) + 64 = low + (r + 1) * 64 from by omega]
      rcases hr3 with h0 | h0
      · omega
      · exact h0
    obtain ⟨q, hq⟩ : ∃ q, q = lw + r := ⟨_, rfl⟩
    have hqp : 64 * q = low + r * 64 := by omega
    rw [← hq] at hk1 hk2
    obtain ⟨pp, hpp⟩ : ∃ pp, pp = 64 * q := ⟨_, rfl⟩
    rw [← hpp] at hk1 hk2
    have y0 : (lw : Int) + (r : Int) = (q : Int) := by omega
    have y1 : (low : Int) + (r : Int) * 64 = (pp : Int) := by omega
    have y2 : IntKind.i64.wrap ((r : Int) * 64) = (r : Int) * 64 := by rw [IntKind.wrap_i64]; omega
    have y3 : IntKind.i64.wrap (pp : Int) = (pp : Int) := by rw [IntKind.wrap_i64]; omega
    have y4 : IntKind.i64.wrap (q : Int) = (q : Int) := by rw [IntKind.wrap_i64]; omega
    have y5 : IntKind.i64.wrap ((k : Int) - (kc t bs pp : Nat)) = (k : Int) - (kc t bs pp : Nat) := by rw [IntKind.wrap_i64]; omega
    have y6 : (k : Int) - (kc t bs pp : Nat) = ((k - kc t bs pp : Nat) : Int) := by omega
    have y7 : IntKind.i64.wrap (lw : Int) = (lw : Int) := by rw [IntKind.wrap_i64]; omega
    have y8 : IntKind.i64.wrap ((k - kc t bs pp : Nat) : Int) = ((k - kc t bs pp : Nat) : Int) := by rw [IntKind.wrap_i64]; omega
    have HPP := hid hpp
    have HK1 := hid hk1
    have HK2 := hid hk2
    clear hpp hqp hq hlw hnn2 hLOW hk1 hk2 hr2 hr3
    have C1 := hid (fun W (hW : Below w5.heap.size w5 W) => show Calls Tryd.prog fa #[.pointer (some ⟨gd, 0, none⟩), .int .i64 (pp : Nat)] W (fun e w' => e = .returned (.int .i64 (kc t bs pp : Nat)) ∧ Below w5.heap.size w5 w') from
      (HAH.out pp W (hd5.below hW)).mono (fun e w' ⟨he, hb⟩ => ⟨he, hW.trans (hb.mono hW.size)⟩))
    have KC := hid (show ∀ W, Below w5.heap.size w5 W → W.cell? ⟨w.heap.size + 1 + 1, 0, none⟩ = some (.func (.func fa) #[.pointer (some ⟨gd, 0, none⟩)] #[]) ∧ W.cell? ⟨w.heap.size + 1 + 1 + 1, 0, none⟩ = some (.int .i64 (low : Nat)) ∧ W.cell? ⟨w.heap.size + 1, 0, none⟩ = some (.int .i64 (k : Nat)) from fun W hW =>
      ⟨(hW.cell (p := ⟨w.heap.size + 1 + 1, 0, none⟩) (B7.below hB5).lt).trans c7, (hW.cell (p := ⟨w.heap.size + 1 + 1 + 1, 0, none⟩) (B10.below hB5).lt).trans c10, (hW.cell (p := ⟨w.heap.size + 1, 0, none⟩) (B6.below hB5).lt).trans c6⟩)
    have hBr := Below.refl w5.heap.size w5
    have hBall : Below w.heap.size w w5 := hB4.trans (hB5.mono hB4.size)
    have hzz := hBall.size
    generalize hkk : kc t bs pp = kk at *
    have HKK := hid hkk
    clear hkk
    go_wp2_with fail
    go_region_held3 (fun w' => Below w5.heap.size w5 w' ∧ w'.cell? ⟨w.heap.size + 1 + 1, 0, none⟩ = some (.func (.func fa) #[.pointer (some ⟨gd, 0, none⟩)] #[]) ∧ w'.cell? ⟨w.heap.size + 1 + 1 + 1, 0, none⟩ = some (.int .i64 (low : Nat)) ∧ w'.cell? ⟨w.heap.size + 1, 0, none⟩ = some (.int .i64 (k : Nat)))
      (first | exact ⟨hBr.drew, c7, c10, c6⟩ | exact ⟨e1, KC.out _ e1⟩ | assumption)
      (first
       | (refine (C1.out _ (by first | assumption | exact And.left (by assumption))).mono ?_; rintro e w6 ⟨rfl, e1⟩))
    all_goals go_wp2
    all_goals go_ret2
    all_goals
      exact ⟨q, by rw [← HPP.out, HKK.out]; rfl, by rw [← HPP.out, HKK.out]; exact HK1.out, by rw [← HPP.out]; exact HK2.out, hBall.trans (Below.mono (by first | exact e1 | assumption | exact And.left (by assumption)) hzz)⟩

end Go.Proofs.YtlpnbkfcbamnbaaDoor
