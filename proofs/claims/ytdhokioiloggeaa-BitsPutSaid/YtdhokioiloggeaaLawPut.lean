/- Walk: the law BitsPut returns true, whatever is put. -/
import Derived.Test.YtdhokioiloggeaaBitsE
set_option linter.unusedVariables false
set_option linter.unusedSimpArgs false
set_option maxRecDepth 100000
namespace Go.Proofs.Ytdhokioiloggeaa
open Go.RowKit L

def opCells (l : List (Nat × Int)) : List Value := l.flatMap fun o => [.int .u64 (o.1 : Nat), .int .i64 o.2]
theorem opCells_get : ∀ (l : List (Nat × Int)) (k : Nat) (h : k < l.length), (opCells l)[k * 2]? = some (.int .u64 (l[k].1 : Nat)) ∧ (opCells l)[k * 2 + 1]? = some (.int .i64 l[k].2)
  | o :: l, 0, _ => by simp [opCells]
  | o :: l, k + 1, h => by
    have ih := opCells_get l k (by simpa using h)
    rw [show (k + 1) * 2 = k * 2 + 2 from by omega]
    simpa [opCells] using ih
def allPuts (l : List (Nat × Int)) : List Bool := l.foldl stepPut []
theorem foldl_stepPut_length : ∀ (l : List (Nat × Int)) (bs : List Bool), (l.foldl stepPut bs).length ≤ bs.length + 64 * l.length
  | [], bs => by simp
  | o :: l, bs => by
    have h1 := foldl_stepPut_length l (stepPut bs o)
    have h2 := stepPut_length bs o
    simp only [List.foldl_cons, List.length_cons]; omega
theorem allPuts_length (l : List (Nat × Int)) : (allPuts l).length ≤ 64 * l.length := by have := foldl_stepPut_length l []; simpa [allPuts] using this
theorem allPuts_succ (l : List (Nat × Int)) (k : Nat) (h : k < l.length) : allPuts (l.take (k + 1)) = stepPut (allPuts (l.take k)) l[k] := by
  unfold allPuts
  rw [List.take_succ_eq_append_getElem h, List.foldl_append]; rfl

set_option maxHeartbeats 2000000 in
theorem lawPut_long (A : Option Addr) (n c : Nat) (early : Int) (w : World) (hn : 60 < n) :
    Calls Try.prog 3 #[.slice A n c, .int .u8 early] w fun e w' => e = .returned (.bool true) ∧ Below w.heap.size w w' := by
  have h1 : (60 : Int) < (n : Int) := by omega
  go_enter Try.func3, Try.ntmps3
  go_wp2_with fail
  refine (awake2 _).mono ?_
  rintro e w1 ⟨rfl, hB1⟩
  go_wp2_with fail
  refine (awake2 _).mono ?_
  rintro e w2 ⟨rfl, hB2⟩
  go_wp2
  go_ret
  exact ⟨rfl, hB1.trans (hB2.mono hB1.size)⟩

set_option maxHeartbeats 4000000 in
theorem lawPut_true (A : Option Addr) (c : Nat) (l : List (Nat × Int)) (early : Int) (w : World) (hl : Lst w A (opCells l)) (hx : ∀ o ∈ l, o.1 < 18446744073709551616) (hn : l.length ≤ 60) (he : 0 ≤ early) (he2 : early < 256) :
    Calls Try.prog 3 #[.slice A l.length c, .int .u8 early] w fun e w' => e = .returned (.bool true) ∧ Below w.heap.size w w' := by
  go_enter Try.func3, Try.ntmps3
  go_wp2_with fail
  refine (awake2 _).mono ?_
  rintro e w1 ⟨rfl, hB1⟩
  have hb0 := BuilderAt.new_at w1 w.heap.size w1.heap.size rfl
  have hs1 := hB1.size
  go_wp2_with fail
  refine (row_any _ _ _ _ _ hb0 (by simp)).mono ?_
  rintro e w2 ⟨gx0, Ax0, cx0, rfl, hr0, _, hAx0, hB2⟩
  have hb2 := hb0.below hB2
  have hx0 := RowFar.new hr0 hAx0 hb0
  have hBw : Below w.heap.size w w2 := (hB1.alloc hs1 (.cells #[.slice none 0 0, .int .i64 0] 26)).trans (hB2.mono (by simp; omega))
  clear hr0 hAx0 hB2 hB1
  go_wp2_with fail
  go_loopw [6, 7, 8, 9, 10, 11] (fun want thn x i t10 t11 wr => ∃ (k : Nat) (v : Value) (Aw : Option Addr) (cw : Nat) (ts : List Bool) (At : Option Addr) (ct gx : Nat) (Ax : Option Addr) (cx : Nat), k ≤ l.length ∧ i = .int .i64 k ∧
      want = .slice Aw (allPuts (l.take k)).length cw ∧ thn = .slice At ts.length ct ∧ x = .pointer (some ⟨gx, 0, none⟩) ∧ BuilderAt wr w.heap.size w1.heap.size v (allPuts (l.take k)) ∧
      LstFar wr w1.heap.size v Aw (bools (allPuts (l.take k))) ∧ LstFar wr w1.heap.size v At (bools ts) ∧ RowFar wr w1.heap.size v gx Ax cx ts ∧ Below w.heap.size w wr) (fun _ _ _ i _ _ _ => l.length - (intOf i).toNat)
  case atStart =>
    exact ⟨0, _, none, 0, [], none, 0, gx0, Ax0, cx0, by omega, rfl, rfl, rfl, rfl, hb2, ⟨Lst.nil_ _ _, fun _ _ h => absurd rfl h⟩, ⟨Lst.nil_ _ _, fun _ _ h => absurd rfl h⟩, hx0, hBw⟩
  case round =>
    obtain ⟨k, v, Aw, cw, ts, At, ct, gx, Ax, cx, hk, rfl, rfl, rfl, rfl, hb, hw, ht, hx', hB⟩ := hrel
    clear hb0 hb2 hx0 hBw
    have hlen := allPuts_length (l.take k)
    have hlk : (l.take k).length ≤ 60 := by rw [List.length_take]; omega
    rcases Nat.lt_or_ge k l.length with hlt | hge
    · obtain ⟨q0, q1⟩ := opCells_get l k hlt
      obtain ⟨ab, ao, rfl, had, hcl⟩ := hl.lit (by have := (List.getElem?_eq_some_iff.1 q0).1; omega)
      have wc0 := (hB.cell (p := ⟨ab, ao + k * 2, none⟩) had).trans (hcl _ _ q0)
      have wc1 := (hB.cell (p := ⟨ab, ao + k * 2 + 1, none⟩) had).trans (hcl _ _ q1)
      have hv := hx _ (List.getElem_mem hlt)
      have H := hid (allPuts_succ l k hlt)
      clear q0 q1 hcl
      have hki : (k : Int) < (l.length : Int) := by omega
      have hk0 : (0 : Int) ≤ (k : Int) := by omega
      have hszr := hB.size
      have hcase : ((k : Int) == early % 60) = true ∨ ((k : Int) == early % 60) = false := by cases ((k : Int) == early % 60) <;> simp
      go_wp2_with fail
      refine (rput_any l[k] Aw cw _ _ hv hw.lst (by omega)).mono ?_
      rintro e w3 ⟨A3, c3, rfl, hl3, hA3, hB3⟩
      rw [← H.out] at hl3 hA3 ⊢
      have hw3 : LstFar w3 w1.heap.size v A3 (bools (allPuts (l.take (k + 1)))) := by
        rcases hA3 with ⟨h, h'⟩ | h
        · subst h
          rw [h'] at hl3 ⊢
          exact hw.below hB3
        · exact LstFar.new hl3 h hb
      clear hA3 hl3
      have hb3 := hb.below hB3
      have ht3 := ht.below hB3
      have hx3 := hx'.below hB3
      have d0 := (hB3.cell (p := ⟨ab, ao + k * 2, none⟩) (by simp; omega)).trans wc0
      have d1 := (hB3.cell (p := ⟨ab, ao + k * 2 + 1, none⟩) (by simp; omega)).trans wc1
      have hB' := hB.trans (hB3.mono hszr)
      have hab : ab < w3.heap.size := by have := hB'.size; omega
      have hn1 : ab ≠ w1.heap.size := by omega
      have hn2 : v.ownBlock ≠ some ab := fun h => by have := (hb.own.lt _ h).1; omega
      have hz3 : w.heap.size ≤ w3.heap.size := hB'.size
      have hlen3 := allPuts_length (l.take (k + 1))
      have hlk3 : (l.take (k + 1)).length ≤ 60 := by rw [List.length_take]; omega
      clear hw hb ht hx' wc0 wc1 hB hB3
      go_wp2_with fail
      go_region_held3? (fun w' => w'.cell? ⟨ab, ao + k * 2, none⟩ = some (.int .u64 (l[k].1 : Nat)) ∧ w'.cell? ⟨ab, ao + k * 2 + 1, none⟩ = some (.int .i64 l[k].2)) (first | go_keep | exact ⟨e0, e1⟩)
        (first
         | (go_at_call 22; refine (put_any l[k] w.heap.size w1.heap.size v (allPuts (l.take k)) _ hv (by omega) (by exact hb3) (by exact hz3)).mono ?_; rintro e w4 ⟨rfl, v4, hb4, hat4, ho4⟩; rw [← H.out] at hb4; have e0 := (ho4.cell (p := ⟨ab, ao + k * 2, none⟩) hab (fun h => h.elim hn1 hn2)).trans d0; have e1 := (ho4.cell (p := ⟨ab, ao + k * 2 + 1, none⟩) hab (fun h => h.elim hn1 hn2)).trans d1)
         | (go_at_call 23; refine (blen_any _ _ _ (hb4.blk.cell 1)).mono ?_; rintro e w' ⟨rfl, rfl⟩))
      replace ho4 := ho4.of_drew
      have hw4 := hw3.put (base := w.heap.size) (bs' := allPuts (l.take k)) hat4 ho4
      have ht4 := ht3.put (base := w.heap.size) (bs' := allPuts (l.take k)) hat4 ho4
      have hx4 := hx3.put hb3 hat4 ho4
      have hB4 : Below w.heap.size w w4 := hB'.trans (ho4.below (fun i hi => by
        rcases hi with hi | hi
        · omega
        · exact (hb3.own.lt _ hi).1) hz3)
      have hz4 := hB4.size
      go_wp2_with (go_at_call 20; refine (row_any w.heap.size w1.heap.size v4 (allPuts (l.take (k + 1))) _ (by exact hb4) (by omega)).mono ?_; rintro e w5 ⟨g5, A5, c5, rfl, hr5, _, hA5, hB5⟩)
      all_goals
        go_roundw
        case rel =>
          first
          | exact ⟨k + 1, v4, A3, c3, _, A3, c3, g5, A5, c5, by omega, by go_num, rfl, rfl, rfl, hb4.below hB5, hw4.below hB5, hw4.below hB5, RowFar.new hr5 hA5 hb4, hB4.trans (hB5.mono hz4)⟩
          | exact ⟨k + 1, v4, A3, c3, ts, At, ct, gx, Ax, cx, by omega, by go_num, rfl, rfl, rfl, hb4, hw4, ht4, hx4, hB4⟩
        case measure => simp [intOf]; omega
    · obtain rfl : k = l.length := by omega
      rw [List.take_length] at *
      have hsz := hB.size
      go_wp2_with fail
      refine (row_any _ _ _ _ _ hb (by omega)).mono ?_
      rintro e w3 ⟨g3, A3, c3, rfl, hr3, _, _, hB3⟩
      go_wp2_with fail
      refine (is_true g3 A3 c3 (allPuts l) Aw cw _ hr3 (hw.below hB3).lst).mono ?_
      rintro e w' ⟨rfl, m, rfl⟩
      go_wp2_with fail
      refine (is_true gx Ax cx ts At ct _ (by exact (hx'.below hB3).row) (by exact (ht.below hB3).lst)).mono ?_
      rintro e w' ⟨rfl, m2, rfl⟩
      go_wp2
      go_ret
      exact ⟨rfl, below_drewN (hB.trans (hB3.mono hsz)) _⟩

theorem lawPut_any (A : Option Addr) (c : Nat) (l : List (Nat × Int)) (early : Int) (w : World) (hl : Lst w A (opCells l)) (hx : ∀ o ∈ l, o.1 < 18446744073709551616) (he : 0 ≤ early) (he2 : early < 256) :
    Calls Try.prog 3 #[.slice A l.length c, .int .u8 early] w fun e w' => e = .returned (.bool true) ∧ Below w.heap.size w w' := by
  rcases Nat.lt_or_ge 60 l.length with h | h
  · exact lawPut_long A l.length c early w h
  · exact lawPut_true A c l early w hl hx h he he2

end Go.Proofs.Ytdhokioiloggeaa
