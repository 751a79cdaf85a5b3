/- Walks: a node's child by its number (nest). -/
import Derived.Test.YtlpnbkfcbamnbaaDoorNestD
set_option linter.unusedVariables false
set_option linter.unusedSimpArgs false
set_option maxRecDepth 100000
namespace Go.Proofs.YtlpnbkfcbamnbaaDoor
open Go.RowKit Go.Shelf L
attribute [local go_sem] Oper.semAt_some

set_option maxHeartbeats 4000000 in
theorem nChild_any (s : Nat) (bs : List Bool) (u : Nat) (k : Int) (r : Int × Int) (w : World) (hs : NestAt w s bs) (b : Bal (bitAt bs) bs.length) (hu : bitAt bs u = true)
    (hr1 : ∀ j : Nat, j < kids (bitAt bs) bs.length u → k = j → r = (((kid (bitAt bs) bs.length u j : Nat) : Int), 0)) (hr2 : (∀ j : Nat, j < kids (bitAt bs) bs.length u → k ≠ j) → r = (0, 7)) :
    Calls Tryd.prog 46 #[.pointer (some ⟨s, 0, none⟩), .int .i64 (u : Nat), .int .i64 k] w fun e w' => e = .returned (.tuple #[.int .i64 r.1, .int .i64 r.2]) ∧ Below w.heap.size w w' := by
  have hB0 : Below w.heap.size w (((w.alloc (.cells #[.int .i64 k] 3)).alloc (.cells #[.int .i64 0] 3)).alloc (.cells #[.int .i64 0] 26)) := (((Below.refl _ _).alloc (Nat.le_refl _) _).alloc (by simp) _).alloc (by simp; omega) _
  have HG := hid (show ∀ W', Below w.heap.size w W' → Calls Tryd.prog 73 #[.pointer (some ⟨s, 0, none⟩), .int .i64 (u : Nat)] W' fun e w' => e = .returned (.bool true) ∧ W' = w' from fun W' hW' => by
    have := nnode_any s bs (u : Nat) W' (hs.below hW'); rwa [rowBit_nat, hu] at this)
  have HU := hid hu
  have HB := hid b
  have HR1 := hid hr1
  have HR2 := hid hr2
  clear hu b hr1 hr2
  have hsm := hs.small
  refine (callsIn_wide (n := 8)).1 ?_
  refine callsIn_of_wp_marks Tryd.func46 rfl trivial ?_ rfl
  simp only [Tryd.ntmps46, List.size_toArray, List.length_cons, List.length_nil, Nat.reduceAdd, Nat.reduceSub, Array.replicate_succ, Array.replicate_zero, List.push_toArray, List.append_toArray, List.nil_append, List.cons_append]
  gi_wp2
  refine ⟨trivial, ?_⟩
  refine (callsIn_wide.2 (HG.out _ hB0)).mono ?_
  rintro e w' ⟨rfl, rfl⟩
  gi_wp2
  refine ⟨trivial, ?_⟩
  refine (callsIn_wide.2 (children_any s u _)).mono ?_
  rintro e w1 ⟨rfl, rfl⟩
  gi_wp2
  have b0 := ((((Boxed.new w 3 (.int .i64 k)).alloc (.cells #[.int .i64 0] 3)).alloc (.cells #[.int .i64 0] 26)).alloc (.cells #[.pointer (some ⟨s, 0, none⟩)] 44)).alloc (.cells #[.int .i64 (u : Nat)] 3)
  have b1 := (((Boxed.new (w.alloc (.cells #[.int .i64 k] 3)) 3 (.int .i64 0)).alloc (.cells #[.int .i64 0] 26)).alloc (.cells #[.pointer (some ⟨s, 0, none⟩)] 44)).alloc (.cells #[.int .i64 (u : Nat)] 3)
  have b2 := ((Boxed.new ((w.alloc (.cells #[.int .i64 k] 3)).alloc (.cells #[.int .i64 0] 3)) 26 (.int .i64 0)).alloc (.cells #[.pointer (some ⟨s, 0, none⟩)] 44)).alloc (.cells #[.int .i64 (u : Nat)] 3)
  have b3 := (Boxed.new (((w.alloc (.cells #[.int .i64 k] 3)).alloc (.cells #[.int .i64 0] 3)).alloc (.cells #[.int .i64 0] 26)) 44 (.pointer (some ⟨s, 0, none⟩))).alloc (.cells #[.int .i64 (u : Nat)] 3)
  have b4 := Boxed.new ((((w.alloc (.cells #[.int .i64 k] 3)).alloc (.cells #[.int .i64 0] 3)).alloc (.cells #[.int .i64 0] 26)).alloc (.cells #[.pointer (some ⟨s, 0, none⟩)] 44)) 3 (.int .i64 (u : Nat))
  simp only [World.size_alloc] at b1 b2 b3 b4
  have hB1 := (hB0.alloc (by simp; omega) (.cells #[.pointer (some ⟨s, 0, none⟩)] 44)).alloc (by simp; omega) (.cells #[.int .i64 (u : Nat)] 3)
  have hsz : (((((w.alloc (.cells #[.int .i64 k] 3)).alloc (.cells #[.int .i64 0] 3)).alloc (.cells #[.int .i64 0] 26)).alloc (.cells #[.pointer (some ⟨s, 0, none⟩)] 44)).alloc (.cells #[.int .i64 (u : Nat)] 3)).heap.size = w.heap.size + 5 := by simp
  generalize ((((w.alloc (.cells #[.int .i64 k] 3)).alloc (.cells #[.int .i64 0] 3)).alloc (.cells #[.int .i64 0] 26)).alloc (.cells #[.pointer (some ⟨s, 0, none⟩)] 44)).alloc (.cells #[.int .i64 (u : Nat)] 3) = W0 at *
  have hlen := hid (chl_length (bitAt bs) bs.length u)
  refine wpIn_rangeFunc_ownF (n := 8) rfl (by omega) (gf := 116) (lb := #[.pointer (some ⟨w.heap.size + 1 + 1 + 1 + 1, 0, none⟩), .pointer (some ⟨w.heap.size + 1 + 1 + 1, 0, none⟩)]) rfl trivial (enters_of Tryd.func116 (by kernel_rfl) rfl)
    (children_stops (8 - 1) (by omega) (w.heap.size + 1 + 1 + 1) (w.heap.size + 1 + 1 + 1 + 1) s bs u w W0 hs HB.out HU.out hB1 b3 b4) kidsK_t (kidsK_b hB1.size) (Below.refl _ _) (fun _ => rfl)
    (fun pre W => (Boxed W w.heap.size 3 (.int .i64 k) ∧ Boxed W (w.heap.size + 1) 3 (.int .i64 0) ∧ Boxed W (w.heap.size + 1 + 1) 26 (.int .i64 0)) ∧ Below w.heap.size w W ∧ ∀ x ∈ pre, ((x.1 : Nat) : Int) ≠ k)
    (fun c pre W => (Boxed W (w.heap.size + 1) 3 (.int .i64 (((pre.getLast?.getD (0, 0)).2 : Nat) : Int)) ∧ Boxed W (w.heap.size + 1 + 1) 26 (.int .i64 0)) ∧ Below w.heap.size w W ∧ c = .ret ∧ ∃ q x, pre = q ++ [x] ∧ ((x.1 : Nat) : Int) = k)
    (OwnFrom.and (OwnFrom.and (Own.from (boxed_own _ _ (fun _ => .int .i64 k)) _) (OwnFrom.and (Own.from (boxed_own _ _ (fun _ => .int .i64 0)) _) (Own.from (boxed_own _ _ (fun _ => .int .i64 0)) _))) (OwnFrom.and (ownFrom_below (Nat.le_refl _) (by omega)) (ownFrom_pure _ _)))
    (fun c => OwnFrom.and (OwnFrom.and (Own.from (boxed_own _ _ (fun pre : List (Nat × Nat) => .int .i64 (((pre.getLast?.getD (0, 0)).2 : Nat) : Int))) _) (Own.from (boxed_own _ _ (fun _ => .int .i64 0)) _)) (OwnFrom.and (ownFrom_below (Nat.le_refl _) (by omega)) (ownFrom_pure _ _)))
    ⟨⟨b0, b1, b2⟩, hB1, by simp⟩
    (fun x => { tmps := #[.pointer (some ⟨s, 0, none⟩), .int .i64 (u : Nat), .int .i64 k, undef, undef, .pointer (some ⟨w.heap.size, 0, none⟩), .pointer (some ⟨w.heap.size + 1, 0, none⟩), .pointer (some ⟨w.heap.size + 1 + 1, 0, none⟩), .int .i64 (x.1 : Nat), .int .i64 (x.2 : Nat), .pointer (some ⟨s, 0, none⟩), .int .i64 (u : Nat), .bool true, .bool false, .pointer (some ⟨s, 0, none⟩), .int .i64 (u : Nat), .func (.func 116) #[] #[.pointer (some ⟨w.heap.size + 1 + 1 + 1 + 1, 0, none⟩), .pointer (some ⟨w.heap.size + 1 + 1 + 1, 0, none⟩)], .int .i64 (x.1 : Nat), .int .i64 (x.2 : Nat), undef, undef, undef, undef], defers := [] })
    ?assign ?body ?done ?stop
  case assign =>
    intro l x W K hK
    dsimp only [amE]
    gi_wp2
    first | exact hK | simpa using hK
  case body =>
    rintro r' pre x W ⟨⟨e0, e1, e2⟩, hB, hpre⟩ hlt
    have k0 := e0.cell
    have k1 := e1.cell
    have k2 := e2.cell
    have k1f := e1.frozen
    have k2f := e2.frozen
    by_cases hx : ((x.1 : Nat) : Int) = k
    · have hxI : (((x.1 : Nat) : Int) == k) = true := by rw [beq_iff_eq]; exact hx
      have HX := hid hx
      have HL := hid (show ((pre ++ [x]).getLast?.getD (0, 0)).2 = x.2 by simp)
      have hsz2 : (w.heap.size + 1 : Nat) ≠ w.heap.size + 1 + 1 := by omega
      have e2' := e2.other (B' := w.heap.size + 1) (by omega) (.int .i64 (x.2 : Nat))
      have k2' := e2'.cell
      have k2f' := e2'.frozen
      clear hx
      gi_wp2
      refine ⟨(KeepsOthers.setCell _ _ _).trans (KeepsOthers.setCell _ _ _), ⟨by rw [HL.out]; exact (e1.set _).other (by omega) _, e2'.set _⟩, (hB.setCell (p := ⟨w.heap.size + 1, 0, none⟩) (by simp) _).setCell (p := ⟨w.heap.size + 1 + 1, 0, none⟩) (by simp; omega) _, by first | rfl | trivial, pre, x, rfl, HX.out⟩
    · have hxI : (((x.1 : Nat) : Int) == k) = false := by rw [beq_eq_false_iff_ne]; exact hx
      have HX := hid hx
      clear hx
      gi_wp2
      exact ⟨KeepsOthers.refl _, ⟨Below.refl _ _, fun _ _ h => h, fun _ _ h => h⟩, ⟨e0, e1, e2⟩, hB, fun y hy => by
        rcases List.mem_append.1 hy with h | h
        · exact hpre y h
        · rw [List.mem_singleton] at h; have := HX.out; subst h; exact this⟩
  case done =>
    rintro D ys W hD rfl ⟨⟨e0, e1, e2⟩, hB, hall⟩ hK
    have hr := HR2.out (fun j hj e => hall (j, kid (bitAt bs) bs.length u j) (by unfold chl; exact List.mem_map.2 ⟨j, List.mem_range.2 hj, rfl⟩) e.symm)
    subst hr
    have k1 := e1.cell
    have k2 := e2.cell
    have k1f := e1.frozen
    have k2f := e2.frozen
    clear hall
    have e2' := e2.other (B' := w.heap.size + 1) (by omega) (.int .i64 0)
    have k2' := e2'.cell
    have k2f' := e2'.frozen
    gi_wp2
    have hK1 := (KeepsOthers.setCell W ⟨w.heap.size + 1, 0, none⟩ (.int .i64 0)).same D _ hK rfl
    have hK2 := (KeepsOthers.setCell (W.setCell ⟨w.heap.size + 1, 0, none⟩ (.int .i64 0)) ⟨w.heap.size + 1 + 1, 0, none⟩ (.int .i64 7)).same D _ hK1 rfl
    have g1 := (e1.set (.int .i64 0)).other (B' := w.heap.size + 1 + 1) (by omega) (.int .i64 7)
    have g2 := e2'.set (.int .i64 7)
    refine ⟨by simp, .inl ⟨_, _, rfl, run_takeDeferred hK2, ?_⟩⟩
    have f1 := cell_kept g1.cell (grownBy_putObj' _ D (.deferred none)) (fun r e => by cases e; exact ⟨_, hK2, rfl⟩)
    have f2 := cell_kept g2.cell (grownBy_putObj' _ D (.deferred none)) (fun r e => by cases e; exact ⟨_, hK2, rfl⟩)
    refine ⟨.tuple #[.int .i64 0, .int .i64 7], ?_, rfl, ((hB.setCell (p := ⟨w.heap.size + 1, 0, none⟩) (by simp) _).setCell (p := ⟨w.heap.size + 1 + 1, 0, none⟩) (by simp; omega) _).trans (belowK_b (w := w) (Nat.le_refl _) _ D _ _ (by omega) hK2 rfl rfl)⟩
    simp [results, Tryd.f46, go_sem, f1, f2]
  case stop =>
    rintro D c pre W hD hpre ⟨⟨e1, e2⟩, hB, rfl, q, x, rfl, hx⟩ hK
    have hlq : q.length < kids (bitAt bs) bs.length u := by
      have := hpre.length_le; rw [hlen.out] at this; simp at this; omega
    have hxe : x = (q.length, kid (bitAt bs) bs.length u q.length) := by
      obtain ⟨r, hr⟩ := hpre
      have h1 : (chl (bitAt bs) bs.length u)[q.length]? = some x := by rw [← hr]; simp
      unfold chl at h1
      rw [List.getElem?_map, List.getElem?_range hlq] at h1
      simpa using h1.symm
    have hr := HR1.out q.length hlq (by rw [← hx, hxe])
    subst hr
    rw [show ((q ++ [x]).getLast?.getD (0, 0)).2 = kid (bitAt bs) bs.length u q.length by rw [hxe]; simp] at e1
    clear hxe hx
    gi_wp2
    refine ⟨by simp, .inl ⟨_, _, rfl, run_takeDeferred hK, ?_⟩⟩
    have f1 := cell_kept e1.cell (grownBy_putObj' _ D (.deferred none)) (fun r e => by cases e; exact ⟨_, hK, rfl⟩)
    have f2 := cell_kept e2.cell (grownBy_putObj' _ D (.deferred none)) (fun r e => by cases e; exact ⟨_, hK, rfl⟩)
    refine ⟨.tuple #[.int .i64 (kid (bitAt bs) bs.length u q.length : Nat), .int .i64 0], ?_, rfl, hB.trans (belowK_b (w := w) (Nat.le_refl _) _ D _ _ (by omega) hK rfl rfl)⟩
    simp [results, Tryd.f46, go_sem, f1, f2]

theorem nChild_at (s : Nat) (bs : List Bool) (u k : Nat) (w : World) (hs : NestAt w s bs) (b : Bal (bitAt bs) bs.length) (hu : bitAt bs u = true) (hk : k < kids (bitAt bs) bs.length u) :
    Calls Tryd.prog 46 #[.pointer (some ⟨s, 0, none⟩), .int .i64 (u : Nat), .int .i64 (k : Nat)] w fun e w' => e = .returned (.tuple #[.int .i64 (kid (bitAt bs) bs.length u k : Nat), .int .i64 0]) ∧ Below w.heap.size w w' :=
  nChild_any s bs u k (((kid (bitAt bs) bs.length u k : Nat) : Int), 0) w hs b hu (fun j _ e => by rw [show j = k from by omega]) (fun h => absurd rfl (h k hk))
theorem nChild_none (s : Nat) (bs : List Bool) (u : Nat) (k : Int) (w : World) (hs : NestAt w s bs) (b : Bal (bitAt bs) bs.length) (hu : bitAt bs u = true) (hk : k < 0 ∨ (kids (bitAt bs) bs.length u : Int) ≤ k) :
    Calls Tryd.prog 46 #[.pointer (some ⟨s, 0, none⟩), .int .i64 (u : Nat), .int .i64 k] w fun e w' => e = .returned (.tuple #[.int .i64 0, .int .i64 7]) ∧ Below w.heap.size w w' :=
  nChild_any s bs u k (0, 7) w hs b hu (fun j h e => by omega) (fun _ => rfl)
end Go.Proofs.YtlpnbkfcbamnbaaDoor
