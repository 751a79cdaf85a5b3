/- Walks: the places of a record's marks, and their bits. -/
import Derived.Test.YtacllonekidocaaDoorMarkB
import Derived.Test.YtacllonekidocaaDoorChooseP
import Derived.Test.YtacllonekidocaaDoorBitsP
set_option linter.unusedVariables false
set_option linter.unusedSimpArgs false
set_option maxRecDepth 100000
namespace Go.Proofs.YtacllonekidocaaDoor
open Go.RowKit Go.Shelf L
attribute [local go_sem] Oper.semAt_some

theorem mEach_any (s : ByteArray) (w : World) : Calls Tryd.prog 21 #[.string s] w fun e w' => e = .returned (.func (.func 36) #[] #[.pointer (some ⟨w.heap.size, 0, none⟩)]) ∧ w' = w.alloc (.cells #[.string s] 9) := by
  go_enter Tryd.func21, Tryd.ntmps21
  go_wp2_with fail
  go_ret
  exact ⟨rfl, rfl⟩
theorem mEach_stops (n : Nat) (hn : 2 ≤ n) (Bn : Nat) (s : ByteArray) (hs : s.size ≤ 1048576) (w : World) (hBn : Bn < w.heap.size) (hc : w.cell? ⟨Bn, 0, none⟩ = some (.string s)) :
    SeqStopsK Fence.wide n Tryd.prog 36 #[.pointer (some ⟨Bn, 0, none⟩)] mkE (KpM Bn) (fun ys => ys = mks (nb s)) (fun pre => pre <+: mks (nb s)) (mks (nb s)).length w := fun l J Jx W hW _ _ hY h0 =>
  mEach1_in n hn l Bn s hs J Jx hY W ((hW.cell (p := ⟨Bn, 0, none⟩) hBn).trans hc) h0

set_option maxHeartbeats 4000000 in
theorem mPlaces_any (s : ByteArray) (w : World) (hs : s.size ≤ 1048576) :
    Calls Tryd.prog 11 #[.string s] w fun e w' => ∃ A c, e = .returned (.slice A (places (nb s)).length c) ∧ w'.ownsRow w.heap.size 3 1 (.slice A (places (nb s)).length c) (places (nb s)).length (natCells (places (nb s))) ∧ Below w.heap.size w w' := by
  obtain ⟨i0, hi, hz0, hz1, hz2⟩ := info_parts Tryd.infoInt
  have hml : (mks (nb s)).length ≤ 1048576 := by have := mks_length (nb s); rw [nb_length] at this; omega
  refine (callsIn_wide (n := 8)).1 ?_
  refine callsIn_of_wp_marks Tryd.func11 rfl trivial ?_ rfl
  simp only [Tryd.ntmps11, List.size_toArray, List.length_cons, List.length_nil, Nat.reduceAdd, Nat.reduceSub, Array.replicate_succ, Array.replicate_zero, List.push_toArray, List.append_toArray, List.nil_append, List.cons_append]
  gi_wp2
  refine ⟨trivial, ?_⟩
  refine (callsIn_wide.2 (mEach_any s _)).mono ?_
  rintro e w1 ⟨rfl, rfl⟩
  gi_wp2
  have b0 := (Boxed.new w 34 (.slice none 0 0)).alloc (.cells #[.string s] 9)
  have b1 := Boxed.new (w.alloc (.cells #[.slice none 0 0] 34)) 9 (.string s)
  simp only [World.size_alloc] at b1
  have hB0 : Below w.heap.size w ((w.alloc (.cells #[.slice none 0 0] 34)).alloc (.cells #[.string s] 9)) := ((Below.refl _ w).alloc (Nat.le_refl _) _).alloc (by simp) _
  have hsz : ((w.alloc (.cells #[.slice none 0 0] 34)).alloc (.cells #[.string s] 9)).heap.size = w.heap.size + 2 := by simp
  obtain ⟨W0, hW0⟩ : ∃ W0, (w.alloc (.cells #[.slice none 0 0] 34)).alloc (.cells #[.string s] 9) = W0 := ⟨_, rfl⟩
  rw [hW0] at b0 b1 hB0 hsz ⊢
  clear hW0
  refine wpIn_rangeFunc_ownF (n := 8) rfl (by omega) (gf := 36) (lb := #[.pointer (some ⟨w.heap.size + 1, 0, none⟩)]) rfl trivial (enters_of Tryd.func36 (by kernel_rfl) rfl)
    (mEach_stops (8 - 1) (by omega) (w.heap.size + 1) s hs W0 (by omega) b1.cell) KpM.t (KpM.b (by omega)) (Below.refl _ _) (fun _ => rfl)
    (fun pre W => ((∃ v, Boxed W w.heap.size 34 v ∧ W.ownsRow w.heap.size 3 1 v pre.length (natCells (pre.map Prod.fst)) ∧ True) ∧ Boxed W (w.heap.size + 1) 9 (.string s)) ∧ Below w.heap.size w W)
    (fun c pre W => False)
    (OwnFrom.and (OwnFrom.and (Own.from (holdsRow_own w.heap.size w.heap.size 34 3 1 (fun pre : List (Nat × Nat) => pre.length) (fun pre => natCells (pre.map Prod.fst)) (fun _ _ => True)) _) (Own.from (boxed_own _ _ (fun _ => .string s)) _)) (ownFrom_below (Nat.le_refl _) (by omega)))
    (fun c => ownFrom_pure _ _)
    ⟨⟨⟨_, b0, World.ownsRow_nil _ _ _ _, trivial⟩, b1⟩, hB0⟩
    (fun x => { tmps := #[.string s, undef, .slice none 0 0, .pointer (some ⟨w.heap.size, 0, none⟩), .int .i64 (x.1 : Nat), .string s, .func (.func 36) #[] #[.pointer (some ⟨w.heap.size + 1, 0, none⟩)], .int .i64 (x.1 : Nat), .int .u8 (x.2 : Nat), undef, undef, undef, undef, undef], defers := [] })
    ?assign ?body ?done ?stop
  case assign =>
    intro l x W K hK
    dsimp only [mkE]
    gi_wp2
    first | exact hK | simpa using hK
  case body =>
    rintro r pre x W ⟨⟨⟨v, bO, hrow, _⟩, b1'⟩, hB⟩ hlt
    obtain ⟨A, cc, rfl⟩ := own_slice hrow
    have kO := bO.cell
    have kO' := bO.frozen
    have hsW := hB.size
    gi_wp2_with (gi_at_builtin; refine wpListIn_append_own _ rfl (.tmp 9) (.tmp 11) 34 rfl w.heap.size 3 i0 _ 1 8 Tryd.underlying34 hi hz0 hz1 hz2 rfl (by decide) _ _ _ rfl (hrow.alloc _) ⟨W.heap.size, 0, none⟩ 1 1 [.int .i64 (x.1 : Nat)] rfl rfl (cell_one_at _ _ _ _ rfl) (by simp [Value.oneCell']) (by simp only [maxLen]; omega) (by omega) (by simp; omega) ?_; intro v' w1 hown' hgrow _; obtain ⟨g', cap', rfl⟩ := ownsRow_succ hown'; obtain ⟨hv1, hv2, hr2, hk2, hb2⟩ := bO.appended (by decide) hrow hB.size (by omega) hown' hgrow; have hc1 := hv1.cell; have hf1 := hv1.frozen)
    have c1 := ((b1'.alloc _).kept hgrow (b1'.not_row (by decide) hrow)).other (B' := w.heap.size) (by omega) (.slice (some ⟨g', 0, none⟩) (pre.length + 1) cap')
    exact ⟨hk2, Eq.trans (show _ = _ from c1) (Eq.symm (show _ = _ from b1')), ⟨⟨⟨_, hv2, by rw [List.map_append, natCells_append, List.length_append]; exact hr2, trivial⟩, c1⟩, hB.trans hb2⟩⟩
  case done =>
    rintro D ys W hD rfl ⟨⟨⟨v, bO, hrow, _⟩, b1'⟩, hB⟩ hK
    have kO := bO.cell
    obtain ⟨A, cc, rfl⟩ := own_slice hrow
    gi_wp2
    refine ⟨by simp, .inl ⟨_, _, rfl, run_takeDeferred hK, ?_⟩⟩
    have hpl : (mks (nb s)).length = (places (nb s)).length := (places_length _).symm
    refine ⟨.slice A (places (nb s)).length cc, ?_, A, cc, rfl, ?_, hB.trans (belowK_b (w := w) (Nat.le_refl _) _ D _ _ (by omega) hK rfl rfl)⟩
    · rw [← hpl]
      simp [results, Tryd.f11, go_sem]
    · rw [← hpl]
      exact ownsRow_putObj hrow _ hK rfl
  case stop =>
    rintro D c pre W hD hpre h
    exact h.elim

theorem L.parens_snoc (m : List (Nat × Nat)) (x : Nat × Nat) : ((m ++ [x]).flatMap fun y => bits2 y.2) = (m.flatMap fun y => bits2 y.2) ++ bits2 x.2 := by rw [List.flatMap_append]; simp
theorem bools_bits2 (c : Nat) : ∃ a b, bits2 c = [a, b] := by unfold bits2; split; exact ⟨_, _, rfl⟩; split; exact ⟨_, _, rfl⟩; exact ⟨_, _, rfl⟩
theorem cell_two8 (w : World) (x y : Value) (e : TypeId) (k : Nat) (hk : k = w.heap.size) : ∀ j u, [x, y][j]? = some u → (w.alloc (.cells #[x, y] e)).cell? ((⟨k, 0, none⟩ : Addr).add j) = some u := by
  subst hk
  intro j u hu
  rw [add_zero_, (BlkIs.new w e #[x, y]).cell j]
  simpa using hu

set_option maxHeartbeats 4000000 in
theorem mParens_any (s : ByteArray) (w : World) (hs : s.size ≤ 1048576) :
    Calls Tryd.prog 15 #[.string s] w fun e w' => ∃ A c, e = .returned (.slice A (parens (nb s)).length c) ∧ w'.ownsRow w.heap.size 4 1 (.slice A (parens (nb s)).length c) (parens (nb s)).length (bools (parens (nb s))) ∧ Below w.heap.size w w' := by
  obtain ⟨i0, hi, hz0, hz1, hz2⟩ := info_parts Tryd.infoBool
  have hml : (mks (nb s)).length ≤ 1048576 := by have := mks_length (nb s); rw [nb_length] at this; omega
  refine (callsIn_wide (n := 8)).1 ?_
  refine callsIn_of_wp_marks Tryd.func15 rfl trivial ?_ rfl
  simp only [Tryd.ntmps15, List.size_toArray, List.length_cons, List.length_nil, Nat.reduceAdd, Nat.reduceSub, Array.replicate_succ, Array.replicate_zero, List.push_toArray, List.append_toArray, List.nil_append, List.cons_append]
  gi_wp2
  refine ⟨trivial, ?_⟩
  refine (callsIn_wide.2 (mEach_any s _)).mono ?_
  rintro e w1 ⟨rfl, rfl⟩
  gi_wp2
  have b0 := (Boxed.new w 42 (.slice none 0 0)).alloc (.cells #[.string s] 9)
  have b1 := Boxed.new (w.alloc (.cells #[.slice none 0 0] 42)) 9 (.string s)
  simp only [World.size_alloc] at b1
  have hB0 : Below w.heap.size w ((w.alloc (.cells #[.slice none 0 0] 42)).alloc (.cells #[.string s] 9)) := ((Below.refl _ w).alloc (Nat.le_refl _) _).alloc (by simp) _
  have hsz : ((w.alloc (.cells #[.slice none 0 0] 42)).alloc (.cells #[.string s] 9)).heap.size = w.heap.size + 2 := by simp
  obtain ⟨W0, hW0⟩ : ∃ W0, (w.alloc (.cells #[.slice none 0 0] 42)).alloc (.cells #[.string s] 9) = W0 := ⟨_, rfl⟩
  rw [hW0] at b0 b1 hB0 hsz ⊢
  clear hW0
  refine wpIn_rangeFunc_ownF (n := 8) rfl (by omega) (gf := 36) (lb := #[.pointer (some ⟨w.heap.size + 1, 0, none⟩)]) rfl trivial (enters_of Tryd.func36 (by kernel_rfl) rfl)
    (mEach_stops (8 - 1) (by omega) (w.heap.size + 1) s hs W0 (by omega) b1.cell) KpM.t (KpM.b (by omega)) (Below.refl _ _) (fun _ => rfl)
    (fun pre W => ((∃ v, Boxed W w.heap.size 42 v ∧ W.ownsRow w.heap.size 4 1 v (pre.flatMap fun y => bits2 y.2).length (bools (pre.flatMap fun y => bits2 y.2)) ∧ True) ∧ Boxed W (w.heap.size + 1) 9 (.string s)) ∧ Below w.heap.size w W)
    (fun c pre W => False)
    (OwnFrom.and (OwnFrom.and (Own.from (holdsRow_own w.heap.size w.heap.size 42 4 1 (fun pre : List (Nat × Nat) => (pre.flatMap fun y => bits2 y.2).length) (fun pre => bools (pre.flatMap fun y => bits2 y.2)) (fun _ _ => True)) _) (Own.from (boxed_own _ _ (fun _ => .string s)) _)) (ownFrom_below (Nat.le_refl _) (by omega)))
    (fun c => ownFrom_pure _ _)
    ⟨⟨⟨_, b0, World.ownsRow_nil _ _ _ _, trivial⟩, b1⟩, hB0⟩
    (fun x => { tmps := #[.string s, undef, .slice none 0 0, .pointer (some ⟨w.heap.size, 0, none⟩), undef, .int .u8 (x.2 : Nat), .string s, .func (.func 36) #[] #[.pointer (some ⟨w.heap.size + 1, 0, none⟩)], .int .i64 (x.1 : Nat), .int .u8 (x.2 : Nat), undef, undef, undef, undef, undef, undef, undef, undef, undef, undef, undef, undef, undef, undef, undef, undef, undef], defers := [] })
    ?assign ?body ?done ?stop
  case assign =>
    intro l x W K hK
    dsimp only [mkE]
    gi_wp2
    first | exact hK | simpa using hK
  case body =>
    rintro r pre x W ⟨⟨⟨v, bO, hrow, _⟩, b1'⟩, hB⟩ hlt
    have hpl := parens_two pre
    have HSN := hid (parens_snoc pre x)
    obtain ⟨L, hL⟩ : ∃ L, L = pre.flatMap fun y => bits2 y.2 := ⟨_, rfl⟩
    rw [← hL] at hrow hpl HSN
    clear hL
    obtain ⟨A, cc, rfl⟩ := own_slice hrow
    have kO := bO.cell
    have kO' := bO.frozen
    have hsW := hB.size
    by_cases h91 : x.2 = 91
    · have HB2 := hid (show bits2 x.2 = [true, true] by rw [h91]; rfl)
      have n91 : ((x.2 : Int) == 91) = true := by rw [beq_iff_eq]; omega
      have hl2 : L.length ≤ 2097152 := by omega
      clear h91 hpl hlt
      gi_wp2_with (gi_at_builtin; refine wpListIn_append_own _ rfl (.tmp 17) (.tmp 18) 42 rfl w.heap.size 4 i0 _ 1 1 Tryd.underlying42 hi hz0 hz1 hz2 rfl (by decide) _ _ _ rfl (hrow.alloc _) ⟨W.heap.size, 0, none⟩ 2 2 [.bool true, .bool true] rfl rfl (cell_two8 _ _ _ _ _ rfl) (by simp [Value.oneCell']) (by simp only [maxLen]; omega) (by omega) (by simp; omega) ?_; intro v' w1 hown' hgrow _; obtain ⟨g', cap', rfl⟩ := ownsRow_succ hown'; obtain ⟨hv1, hv2, hr2, hk2, hb2⟩ := bO.appended (by decide) hrow hB.size (by omega) hown' hgrow; have hc1 := hv1.cell; have hf1 := hv1.frozen)
      have c1 := ((b1'.alloc _).kept hgrow (b1'.not_row (by decide) hrow)).other (B' := w.heap.size) (by omega) (.slice (some ⟨g', 0, none⟩) (L.length + 2) cap')
      exact ⟨hk2, Eq.trans (show _ = _ from c1) (Eq.symm (show _ = _ from b1')), ⟨⟨⟨_, hv2, by rw [HSN.out, HB2.out, bools_append, List.length_append]; exact hr2, trivial⟩, c1⟩, hB.trans hb2⟩⟩
    by_cases h123 : x.2 = 123
    · have HB2 := hid (show bits2 x.2 = [true, true] by rw [h123]; rfl)
      have n91 : ((x.2 : Int) == 91) = false := by rw [beq_eq_false_iff_ne]; omega
      have n123 : ((x.2 : Int) == 123) = true := by rw [beq_iff_eq]; omega
      have hl2 : L.length ≤ 2097152 := by omega
      clear h91 h123 hpl hlt
      gi_wp2_with (gi_at_builtin; refine wpListIn_append_own _ rfl (.tmp 17) (.tmp 18) 42 rfl w.heap.size 4 i0 _ 1 1 Tryd.underlying42 hi hz0 hz1 hz2 rfl (by decide) _ _ _ rfl (hrow.alloc _) ⟨W.heap.size, 0, none⟩ 2 2 [.bool true, .bool true] rfl rfl (cell_two8 _ _ _ _ _ rfl) (by simp [Value.oneCell']) (by simp only [maxLen]; omega) (by omega) (by simp; omega) ?_; intro v' w1 hown' hgrow _; obtain ⟨g', cap', rfl⟩ := ownsRow_succ hown'; obtain ⟨hv1, hv2, hr2, hk2, hb2⟩ := bO.appended (by decide) hrow hB.size (by omega) hown' hgrow; have hc1 := hv1.cell; have hf1 := hv1.frozen)
      have c1 := ((b1'.alloc _).kept hgrow (b1'.not_row (by decide) hrow)).other (B' := w.heap.size) (by omega) (.slice (some ⟨g', 0, none⟩) (L.length + 2) cap')
      exact ⟨hk2, Eq.trans (show _ = _ from c1) (Eq.symm (show _ = _ from b1')), ⟨⟨⟨_, hv2, by rw [HSN.out, HB2.out, bools_append, List.length_append]; exact hr2, trivial⟩, c1⟩, hB.trans hb2⟩⟩
    by_cases h93 : x.2 = 93
    · have HB2 := hid (show bits2 x.2 = [false, false] by rw [h93]; rfl)
      have n91 : ((x.2 : Int) == 91) = false := by rw [beq_eq_false_iff_ne]; omega
      have n123 : ((x.2 : Int) == 123) = false := by rw [beq_eq_false_iff_ne]; omega
      have n93 : ((x.2 : Int) == 93) = true := by rw [beq_iff_eq]; omega
      have hl2 : L.length ≤ 2097152 := by omega
      clear h91 h123 h93 hpl hlt
      gi_wp2_with (gi_at_builtin; refine wpListIn_append_own _ rfl (.tmp 23) (.tmp 24) 42 rfl w.heap.size 4 i0 _ 1 1 Tryd.underlying42 hi hz0 hz1 hz2 rfl (by decide) _ _ _ rfl (hrow.alloc _) ⟨W.heap.size, 0, none⟩ 2 2 [.bool false, .bool false] rfl rfl (cell_two8 _ _ _ _ _ rfl) (by simp [Value.oneCell']) (by simp only [maxLen]; omega) (by omega) (by simp; omega) ?_; intro v' w1 hown' hgrow _; obtain ⟨g', cap', rfl⟩ := ownsRow_succ hown'; obtain ⟨hv1, hv2, hr2, hk2, hb2⟩ := bO.appended (by decide) hrow hB.size (by omega) hown' hgrow; have hc1 := hv1.cell; have hf1 := hv1.frozen)
      have c1 := ((b1'.alloc _).kept hgrow (b1'.not_row (by decide) hrow)).other (B' := w.heap.size) (by omega) (.slice (some ⟨g', 0, none⟩) (L.length + 2) cap')
      exact ⟨hk2, Eq.trans (show _ = _ from c1) (Eq.symm (show _ = _ from b1')), ⟨⟨⟨_, hv2, by rw [HSN.out, HB2.out, bools_append, List.length_append]; exact hr2, trivial⟩, c1⟩, hB.trans hb2⟩⟩
    by_cases h125 : x.2 = 125
    · have HB2 := hid (show bits2 x.2 = [false, false] by rw [h125]; rfl)
      have n91 : ((x.2 : Int) == 91) = false := by rw [beq_eq_false_iff_ne]; omega
      have n123 : ((x.2 : Int) == 123) = false := by rw [beq_eq_false_iff_ne]; omega
      have n93 : ((x.2 : Int) == 93) = false := by rw [beq_eq_false_iff_ne]; omega
      have n125 : ((x.2 : Int) == 125) = true := by rw [beq_iff_eq]; omega
      have hl2 : L.length ≤ 2097152 := by omega
      clear h91 h123 h93 h125 hpl hlt
      gi_wp2_with (gi_at_builtin; refine wpListIn_append_own _ rfl (.tmp 23) (.tmp 24) 42 rfl w.heap.size 4 i0 _ 1 1 Tryd.underlying42 hi hz0 hz1 hz2 rfl (by decide) _ _ _ rfl (hrow.alloc _) ⟨W.heap.size, 0, none⟩ 2 2 [.bool false, .bool false] rfl rfl (cell_two8 _ _ _ _ _ rfl) (by simp [Value.oneCell']) (by simp only [maxLen]; omega) (by omega) (by simp; omega) ?_; intro v' w1 hown' hgrow _; obtain ⟨g', cap', rfl⟩ := ownsRow_succ hown'; obtain ⟨hv1, hv2, hr2, hk2, hb2⟩ := bO.appended (by decide) hrow hB.size (by omega) hown' hgrow; have hc1 := hv1.cell; have hf1 := hv1.frozen)
      have c1 := ((b1'.alloc _).kept hgrow (b1'.not_row (by decide) hrow)).other (B' := w.heap.size) (by omega) (.slice (some ⟨g', 0, none⟩) (L.length + 2) cap')
      exact ⟨hk2, Eq.trans (show _ = _ from c1) (Eq.symm (show _ = _ from b1')), ⟨⟨⟨_, hv2, by rw [HSN.out, HB2.out, bools_append, List.length_append]; exact hr2, trivial⟩, c1⟩, hB.trans hb2⟩⟩
    · have HB2 := hid (show bits2 x.2 = [false, true] by unfold bits2; rw [if_neg (by omega), if_neg (by omega)])
      have n91 : ((x.2 : Int) == 91) = false := by rw [beq_eq_false_iff_ne]; omega
      have n123 : ((x.2 : Int) == 123) = false := by rw [beq_eq_false_iff_ne]; omega
      have n93 : ((x.2 : Int) == 93) = false := by rw [beq_eq_false_iff_ne]; omega
      have n125 : ((x.2 : Int) == 125) = false := by rw [beq_eq_false_iff_ne]; omega
      have hl2 : L.length ≤ 2097152 := by omega
      clear h91 h123 h93 h125 hpl hlt
      gi_wp2_with (gi_at_builtin; refine wpListIn_append_own _ rfl (.tmp 11) (.tmp 12) 42 rfl w.heap.size 4 i0 _ 1 1 Tryd.underlying42 hi hz0 hz1 hz2 rfl (by decide) _ _ _ rfl (hrow.alloc _) ⟨W.heap.size, 0, none⟩ 2 2 [.bool false, .bool true] rfl rfl (cell_two8 _ _ _ _ _ rfl) (by simp [Value.oneCell']) (by simp only [maxLen]; omega) (by omega) (by simp; omega) ?_; intro v' w1 hown' hgrow _; obtain ⟨g', cap', rfl⟩ := ownsRow_succ hown'; obtain ⟨hv1, hv2, hr2, hk2, hb2⟩ := bO.appended (by decide) hrow hB.size (by omega) hown' hgrow; have hc1 := hv1.cell; have hf1 := hv1.frozen)
      have c1 := ((b1'.alloc _).kept hgrow (b1'.not_row (by decide) hrow)).other (B' := w.heap.size) (by omega) (.slice (some ⟨g', 0, none⟩) (L.length + 2) cap')
      exact ⟨hk2, Eq.trans (show _ = _ from c1) (Eq.symm (show _ = _ from b1')), ⟨⟨⟨_, hv2, by rw [HSN.out, HB2.out, bools_append, List.length_append]; exact hr2, trivial⟩, c1⟩, hB.trans hb2⟩⟩
  case done =>
    rintro D ys W hD rfl ⟨⟨⟨v, bO, hrow, _⟩, b1'⟩, hB⟩ hK
    have kO := bO.cell
    obtain ⟨A, cc, rfl⟩ := own_slice hrow
    gi_wp2
    refine ⟨by simp, .inl ⟨_, _, rfl, run_takeDeferred hK, ?_⟩⟩
    refine ⟨.slice A (parens (nb s)).length cc, ?_, A, cc, rfl, ?_, hB.trans (belowK_b (w := w) (Nat.le_refl _) _ D _ _ (by omega) hK rfl rfl)⟩
    · simp [results, Tryd.f15, go_sem, parens]
    · exact ownsRow_putObj hrow _ hK rfl
  case stop =>
    rintro D c pre W hD hpre h
    exact h.elim
end Go.Proofs.YtacllonekidocaaDoor
