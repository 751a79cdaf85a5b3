/- Walks: the lines of a file. -/
import Derived.Test.YtegoephanphnkaaSplitA
set_option linter.unusedVariables false
set_option linter.unusedSimpArgs false
set_option maxRecDepth 100000
namespace Go.Proofs.Ytegoephanphnkaa
open Go.RowKit Go.Shelf L
attribute [local go_sem] Oper.semAt_some

theorem Try.infoSpan : (Try.prog.info? 44).map (fun i => (i.zero, i.size, i.bytes)) = some (some (.agg #[.int .i64 0, .int .i64 0]), 2, 16) := by kernel_rfl

theorem cell_two_at (w : World) (x y : Value) (e : TypeId) (k : Nat) (hk : k = w.heap.size) : ∀ j u, [x, y][j]? = some u → (w.alloc (.cells #[x, y] e)).cell? ((⟨k, 0, none⟩ : Addr).add j) = some u := by
  subst hk
  intro j u hu
  rw [add_zero_, (BlkIs.new w e #[x, y]).cell j]
  simpa using hu
theorem blk_own {β : Type} (B : Nat) (t : TypeId) (f : β → Array Value) : Own (fun s W => BlkIs W B t (f s)) := fun s X Y row hs hg hrow =>
  hs.kept (hg.block B hs.lt (fun e' => by obtain ⟨o, ho, hc⟩ := hrow B e'.symm; rw [show X.heap[B]? = _ from hs] at ho; cases ho; cases hc))

/-- The cells of places. -/
def spC (xs : List (Nat × Nat)) : List Value := xs.flatMap fun p => [.int .i64 (p.1 : Nat), .int .i64 (p.2 : Nat)]
theorem spC_snoc (xs : List (Nat × Nat)) (p : Nat × Nat) : spC (xs ++ [p]) = spC xs ++ [.int .i64 (p.1 : Nat), .int .i64 (p.2 : Nat)] := by unfold spC; rw [List.flatMap_append]; simp
theorem spC_length (xs : List (Nat × Nat)) : (spC xs).length = xs.length * 2 := by
  induction xs with
  | nil => rfl
  | cons p xs ih => unfold spC at *; simp only [List.flatMap_cons, List.length_append, List.length_cons, List.length_nil, ih]; omega

theorem lines_long (s : ByteArray) (w : World) (hs : 1048576 < s.size) :
    Calls Try.prog 21 #[.string s] w fun e w' => e = .returned (.tuple #[.slice none 0 0, .int .i64 4]) ∧ Below w.heap.size w w' := by
  have d1 : decide ((s.size : Int) > 1048576) = true := decide_eq_true (by omega)
  go_enter Try.func21, Try.ntmps21
  go_wp2_with fail
  refine bodyPost_ret (v := .tuple #[.slice none 0 0, .int .i64 4]) (by simp [results, Try.results21, go_sem]) rfl ⟨rfl, ?_⟩
  exact ((Below.refl _ _).alloc (Nat.le_refl _) _).alloc (by simp) _

set_option maxHeartbeats 4000000 in
theorem lines_all (s : ByteArray) (w : World) (hs : s.size ≤ 1048576) :
    Calls Try.prog 21 #[.string s] w fun e w' => ((spans (nb s)).length ≤ 4096 ∧ (∃ A c, e = .returned (.tuple #[.slice A (spans (nb s)).length c, .int .i64 0]) ∧ w'.ownsRow w.heap.size 44 2 (.slice A (spans (nb s)).length c) (spans (nb s)).length (spC (spans (nb s)))) ∨ 4096 < (spans (nb s)).length ∧ e = .returned (.tuple #[.slice none 0 0, .int .i64 9])) ∧ Below w.heap.size w w' := by
  obtain ⟨i0, hi, hz0, hz1, hz2⟩ := info_parts Try.infoSpan
  have d1 : decide ((s.size : Int) > 1048576) = false := decide_eq_false (by omega)
  have d1N : ¬ (1048576 < s.size) := by omega
  refine (callsIn_wide (n := 8)).1 ?_
  refine callsIn_of_wp_marks Try.func21 rfl trivial ?_ rfl
  simp only [Try.ntmps21, List.size_toArray, List.length_cons, List.length_nil, Nat.reduceAdd, Nat.reduceSub, Array.replicate_succ, Array.replicate_zero, List.push_toArray, List.append_toArray, List.nil_append, List.cons_append]
  gi_wp2
  refine ⟨trivial, ?_⟩
  refine (callsIn_wide.2 (lines_any s _)).mono ?_
  rintro e w1 ⟨rfl, rfl⟩
  gi_wp2
  obtain ⟨h, hh⟩ : ∃ h, h = w.heap.size := ⟨_, rfl⟩
  have b0 := (((Boxed.new w 40 (.slice none 0 0)).alloc (.cells #[.int .i64 0] 23)).alloc (.cells #[.slice none 0 0] 40)).alloc (.cells #[.string s] 9)
  have b1 := ((Boxed.new (w.alloc (.cells #[.slice none 0 0] 40)) 23 (.int .i64 0)).alloc (.cells #[.slice none 0 0] 40)).alloc (.cells #[.string s] 9)
  have b2 := (Boxed.new ((w.alloc (.cells #[.slice none 0 0] 40)).alloc (.cells #[.int .i64 0] 23)) 40 (.slice none 0 0)).alloc (.cells #[.string s] 9)
  have b3 := Boxed.new (((w.alloc (.cells #[.slice none 0 0] 40)).alloc (.cells #[.int .i64 0] 23)).alloc (.cells #[.slice none 0 0] 40)) 9 (.string s)
  simp only [World.size_alloc] at b1 b2 b3
  have hB0 : Below w.heap.size w ((((w.alloc (.cells #[.slice none 0 0] 40)).alloc (.cells #[.int .i64 0] 23)).alloc (.cells #[.slice none 0 0] 40)).alloc (.cells #[.string s] 9)) := ((((Below.refl _ w).alloc (Nat.le_refl _) _).alloc (by simp) _).alloc (by simp; omega) _).alloc (by simp; omega) _
  have hsz : ((((w.alloc (.cells #[.slice none 0 0] 40)).alloc (.cells #[.int .i64 0] 23)).alloc (.cells #[.slice none 0 0] 40)).alloc (.cells #[.string s] 9)).heap.size = w.heap.size + 4 := by simp
  obtain ⟨W0, hW0⟩ : ∃ W0, (((w.alloc (.cells #[.slice none 0 0] 40)).alloc (.cells #[.int .i64 0] 23)).alloc (.cells #[.slice none 0 0] 40)).alloc (.cells #[.string s] 9) = W0 := ⟨_, rfl⟩
  rw [hW0] at b0 b1 b2 b3 hB0 hsz ⊢
  clear hW0
  refine wpIn_rangeFunc_ownH (n := 8) rfl (by omega) (gf := 37) (lb := #[.pointer (some ⟨w.heap.size + 1 + 1 + 1, 0, none⟩)]) rfl trivial (enters_of Try.func37 (by kernel_rfl) rfl)
    (lines_stops (8 - 1) (by omega) (w.heap.size + 1 + 1 + 1) s hs W0 (by omega) b3.cell) KpB.t (KpB.b (by omega)) (Below.refl _ _) (fun _ => rfl)
    (fun pre W => ((∃ v, Boxed W (w.heap.size + 1 + 1) 40 v ∧ W.ownsRow w.heap.size 44 2 v pre.length (spC pre) ∧ True) ∧ (Boxed W w.heap.size 40 (.slice none 0 0) ∧ Boxed W (w.heap.size + 1) 23 (.int .i64 0)) ∧ Boxed W (w.heap.size + 1 + 1 + 1) 9 (.string s)) ∧ Below w.heap.size w W ∧ pre.length ≤ 4096)
    (fun c pre W => ((Boxed W w.heap.size 40 (.slice none 0 0) ∧ Boxed W (w.heap.size + 1) 23 (.int .i64 9)) ∧ c = .ret) ∧ Below w.heap.size w W ∧ 4096 < pre.length)
    (OwnFrom.and (OwnFrom.and (Own.from (holdsRow_own w.heap.size (w.heap.size + 1 + 1) 40 44 2 (fun pre => pre.length) spC (fun _ _ => True)) _) (OwnFrom.and (OwnFrom.and (Own.from (boxed_own _ _ (fun _ => .slice none 0 0)) _) (Own.from (boxed_own _ _ (fun _ => .int .i64 0)) _)) (Own.from (boxed_own _ _ (fun _ => .string s)) _))) (OwnFrom.and (ownFrom_below (Nat.le_refl _) (by omega)) (ownFrom_pure _ _)))
    (fun c => OwnFrom.and (OwnFrom.and (OwnFrom.and (Own.from (boxed_own _ _ (fun _ => .slice none 0 0)) _) (Own.from (boxed_own _ _ (fun _ => .int .i64 9)) _)) (ownFrom_pure _ _)) (OwnFrom.and (ownFrom_below (Nat.le_refl _) (by omega)) (ownFrom_pure _ _)))
    ⟨⟨⟨_, b2, World.ownsRow_nil _ _ _ _, trivial⟩, ⟨b0, b1⟩, b3⟩, hB0, by simp⟩
    (fun x a' W => ∃ Bx, w.heap.size + 1 + 1 + 1 < Bx ∧ BlkIs W Bx 44 #[.int .i64 (x.1 : Nat), .int .i64 (x.2 : Nat)] ∧ a' = { tmps := #[.string s, undef, .pointer (some ⟨w.heap.size, 0, none⟩), .pointer (some ⟨w.heap.size + 1, 0, none⟩), .pointer (some ⟨w.heap.size + 1 + 1, 0, none⟩), .pointer (some ⟨Bx, 0, none⟩), .string s, .int .i64 s.size, .bool false, .string s, .func (.func 37) #[] #[.pointer (some ⟨w.heap.size + 1 + 1 + 1, 0, none⟩)], spE x, undef, undef, undef, undef, undef, undef, undef, undef], defers := [] })
    (fun x a' _ X Y row hs hg hr => by obtain ⟨Bx, h1, h2, h3⟩ := hs; exact ⟨Bx, h1, blk_own Bx 44 (fun (_ : Unit) => #[.int .i64 (x.1 : Nat), .int .i64 (x.2 : Nat)]) () X Y row h2 hg (fun r e => (hr r e).2), h3⟩)
    ?assign ?body ?done ?stop
  case assign =>
    rintro l pre x W K ⟨⟨⟨v, bO, hrow, _⟩, ⟨c0, c1⟩, c3⟩, hB, hlen⟩ hK
    unfold spE at hK ⊢
    gi_wp2
    exact hK _ _ ((KeepsOthers.alloc _ _).from _) (Below.heap_alloc W _ _ c3.lt) ⟨⟨⟨v, bO.alloc _, hrow.alloc _, trivial⟩, ⟨c0.alloc _, c1.alloc _⟩, c3.alloc _⟩, hB.alloc hB.size _, hlen⟩ ⟨W.heap.size, c3.lt, BlkIs.new W _ _, rfl⟩
  case body =>
    rintro l pre x a' W hl ⟨r, hr⟩ ⟨⟨⟨v, bO, hrow, _⟩, ⟨c0, c1⟩, c3⟩, hB, hlen⟩ ⟨Bx, hBx, bX, rfl⟩ hlt
    obtain ⟨A, cc, rfl⟩ := own_slice hrow
    have kO := bO.cell
    have kO' := bO.frozen
    have kX0 := bX.cell 0
    have kX1 := bX.cell 1
    by_cases hp : pre.length = 4096
    · have hpI : ((pre.length : Int) == 4096) = true := by rw [beq_iff_eq]; omega
      have HP := hid hp
      have k0 := c0.cell
      have k0' := c0.frozen
      have k1 := c1.cell
      have k1' := c1.frozen
      clear hp
      gi_wp2
      exact ⟨((KeepsOthers.setCell _ _ _).trans (KeepsOthers.setCell _ _ _)).from _, ⟨⟨⟨(c0.set _).other (by omega) _, (c1.other (by omega) _).set _⟩, rfl⟩, (hB.setCell (p := ⟨w.heap.size, 0, none⟩) (Nat.le_refl _) _).setCell (p := ⟨w.heap.size + 1, 0, none⟩) (by simp) _, by rw [List.length_append]; have := HP.out; simp; omega⟩⟩
    · have hpI : ((pre.length : Int) == 4096) = false := by rw [beq_eq_false_iff_ne]; omega
      have hsW := hB.size
      gi_wp2_with (gi_at_builtin; refine wpListIn_append_own _ rfl (.tmp 15) (.tmp 17) 40 rfl w.heap.size 44 i0 _ 2 16 Try.underlying40 hi hz0 hz1 hz2 rfl (by decide) _ _ _ rfl (hrow.alloc _) ⟨W.heap.size, 0, none⟩ 1 1 [.int .i64 (x.1 : Nat), .int .i64 (x.2 : Nat)] rfl rfl (cell_two_at _ _ _ _ _ rfl) (by simp [Value.oneCell']) (by simp only [maxLen]; omega) (by omega) (by simp; omega) ?_; intro v' w1 hown' hgrow _; obtain ⟨g', cap', rfl⟩ := ownsRow_succ hown'; obtain ⟨hv1, hv2, hr2, hk2, hb2⟩ := bO.appended (by decide) hrow hB.size (by omega) hown' hgrow; have hc1 := hv1.cell; have hf1 := hv1.frozen)
      have c3' := ((c3.alloc _).kept hgrow (c3.not_row (by decide) hrow)).other (B' := w.heap.size + 1 + 1) (by omega) (.slice (some ⟨g', 0, none⟩) (pre.length + 1) cap')
      have c1' := ((c1.alloc _).kept hgrow (c1.not_row (by decide) hrow)).other (B' := w.heap.size + 1 + 1) (by omega) (.slice (some ⟨g', 0, none⟩) (pre.length + 1) cap')
      have c0' := ((c0.alloc _).kept hgrow (c0.not_row (by decide) hrow)).other (B' := w.heap.size + 1 + 1) (by omega) (.slice (some ⟨g', 0, none⟩) (pre.length + 1) cap')
      exact ⟨hk2.from _, Eq.trans (show _ = _ from c3') (Eq.symm (show _ = _ from c3)), ⟨⟨_, hv2, by rw [spC_snoc, List.length_append]; exact hr2, trivial⟩, ⟨c0', c1'⟩, c3'⟩, hB.trans hb2, by rw [List.length_append]; simp; omega⟩
  case done =>
    rintro D ys W hD rfl ⟨⟨⟨v, bO, hrow, _⟩, ⟨c0, c1⟩, c3⟩, hB, hlen⟩ hK
    have kO := bO.cell
    have k0 := c0.cell
    have k0' := c0.frozen
    have k1 := c1.cell
    have k1' := c1.frozen
    obtain ⟨A, cc, rfl⟩ := own_slice hrow
    gi_wp2
    have hK1 := (KeepsOthers.setCell W ⟨w.heap.size, 0, none⟩ (.slice A (spans (nb s)).length cc)).same D _ hK rfl
    have hK2 := (KeepsOthers.setCell (W.setCell ⟨w.heap.size, 0, none⟩ (.slice A (spans (nb s)).length cc)) ⟨w.heap.size + 1, 0, none⟩ (.int .i64 0)).same D _ hK1 rfl
    have e0 := (c0.set (.slice A (spans (nb s)).length cc)).other (B' := w.heap.size + 1) (by omega) (.int .i64 0)
    have e1 := (c1.other (B' := w.heap.size) (by omega) (.slice A (spans (nb s)).length cc)).set (.int .i64 0)
    have r1 := (hrow.kept (grownBy_setCell' W w.heap.size (.slice A (spans (nb s)).length cc)) (.inr (c0.not_row (by decide) hrow).symm))
    have r2 := (r1.kept (grownBy_setCell' _ (w.heap.size + 1) (.int .i64 0)) (.inr ((c1.other (B' := w.heap.size) (by omega) (.slice A (spans (nb s)).length cc)).not_row (by decide) r1).symm))
    refine ⟨by simp, .inl ⟨_, _, rfl, run_takeDeferred hK2, ?_⟩⟩
    have f0 := cell_kept e0.cell (grownBy_putObj' _ D (.deferred none)) (fun r e => by cases e; exact ⟨_, hK2, rfl⟩)
    have f1 := cell_kept e1.cell (grownBy_putObj' _ D (.deferred none)) (fun r e => by cases e; exact ⟨_, hK2, rfl⟩)
    refine ⟨.tuple #[.slice A (spans (nb s)).length cc, .int .i64 0], ?_, .inl ⟨hlen, A, cc, rfl, ownsRow_putObj r2 _ hK2 rfl⟩, ((hB.setCell (p := ⟨w.heap.size, 0, none⟩) (Nat.le_refl _) _).setCell (p := ⟨w.heap.size + 1, 0, none⟩) (by simp) _).trans (belowK_b (w := w) (Nat.le_refl _) _ D _ _ (by omega) hK2 rfl rfl)⟩
    simp [results, Try.f21, go_sem, f0, f1]
  case stop =>
    rintro D c pre W hD hpre ⟨⟨⟨c0, c1⟩, rfl⟩, hB, hlen⟩ hK
    gi_wp2
    refine ⟨by simp, .inl ⟨_, _, rfl, run_takeDeferred hK, ?_⟩⟩
    have f0 := cell_kept c0.cell (grownBy_putObj' _ D (.deferred none)) (fun r e => by cases e; exact ⟨_, hK, rfl⟩)
    have f1 := cell_kept c1.cell (grownBy_putObj' _ D (.deferred none)) (fun r e => by cases e; exact ⟨_, hK, rfl⟩)
    have hpl : pre.length ≤ (spans (nb s)).length := hpre.length_le
    refine ⟨.tuple #[.slice none 0 0, .int .i64 9], ?_, .inr ⟨by omega, rfl⟩, hB.trans (belowK_b (w := w) (Nat.le_refl _) _ D _ _ (by omega) hK rfl rfl)⟩
    simp [results, Try.f21, go_sem, f0, f1]

end Go.Proofs.Ytegoephanphnkaa
