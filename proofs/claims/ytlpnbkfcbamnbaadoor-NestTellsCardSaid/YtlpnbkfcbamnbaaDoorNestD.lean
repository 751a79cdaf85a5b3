/- Walks: how many children a node has (nest). -/
import Derived.Test.YtlpnbkfcbamnbaaDoorNestC
import Derived.Test.YtlpnbkfcbamnbaaDoorFanoQ
set_option linter.unusedVariables false
set_option linter.unusedSimpArgs false
set_option maxRecDepth 100000
namespace Go.Proofs.YtlpnbkfcbamnbaaDoor
open Go.RowKit Go.Shelf L
attribute [local go_sem] Oper.semAt_some

theorem children_stops (n : Nat) (hn : 2 ≤ n) (Bs Bp s : Nat) (bs : List Bool) (u : Nat) (w w0 : World) (hs : NestAt w s bs) (b : Bal (bitAt bs) bs.length) (hu : bitAt bs u = true) (h0 : Below w.heap.size w w0)
    (hcs : Boxed w0 Bs 44 (.pointer (some ⟨s, 0, none⟩))) (hcp : Boxed w0 Bp 3 (.int .i64 (u : Nat))) :
    SeqStopsK Fence.wide n Tryd.prog 116 #[.pointer (some ⟨Bp, 0, none⟩), .pointer (some ⟨Bs, 0, none⟩)] amE (KidsK w.heap.size Bs Bp) (fun ys => ys = chl (bitAt bs) bs.length u) (fun pre => pre <+: chl (bitAt bs) bs.length u) (kids (bitAt bs) bs.length u) w0 := fun y J Jx W hW hJ _ hY hj0 =>
  children_in n hn y Bs Bp s bs u w hs b hu J Jx W ((hW.block _ hcs.lt).trans hcs) ((hW.block _ hcp.lt).trans hcp) (h0.trans (hW.mono h0.size)) hJ hY hj0

set_option maxHeartbeats 4000000 in
theorem nCount_at (s : Nat) (bs : List Bool) (u : Nat) (w : World) (hs : NestAt w s bs) (b : Bal (bitAt bs) bs.length) (hu : bitAt bs u = true) :
    Calls Tryd.prog 34 #[.pointer (some ⟨s, 0, none⟩), .int .i64 (u : Nat)] w fun e w' => e = .returned (.tuple #[.int .i64 (kids (bitAt bs) bs.length u : Nat), .int .i64 0]) ∧ Below w.heap.size w w' := by
  have HND := hid (show ∀ i W', NestAt W' s bs → Calls Tryd.prog 73 #[.pointer (some ⟨s, 0, none⟩), .int .i64 (i : Nat)] W' fun e w' => e = .returned (.bool (bitAt bs i)) ∧ W' = w' from fun i W' hW' => by
    have := nnode_any s bs (i : Nat) W' hW'; rwa [rowBit_nat] at this)
  have HG := hid (HND.out u w hs)
  rw [hu] at HG
  have HU := hid hu
  have HB := hid b
  clear hu b HND
  have hsm := hs.small
  refine (callsIn_wide (n := 8)).1 ?_
  refine callsIn_of_wp_marks Tryd.func34 rfl trivial ?_ rfl
  simp only [Tryd.ntmps34, List.size_toArray, List.length_cons, List.length_nil, Nat.reduceAdd, Nat.reduceSub, Array.replicate_succ, Array.replicate_zero, List.push_toArray, List.append_toArray, List.nil_append, List.cons_append]
  gi_wp2
  refine ⟨trivial, ?_⟩
  refine (callsIn_wide.2 HG.out).mono ?_
  rintro e w' ⟨rfl, rfl⟩
  gi_wp2
  refine ⟨trivial, ?_⟩
  refine (callsIn_wide.2 (children_any s u _)).mono ?_
  rintro e w1 ⟨rfl, rfl⟩
  gi_wp2
  have b0 := (((Boxed.new w 3 (.int .i64 0)).alloc (.cells #[.pointer (some ⟨s, 0, none⟩)] 44)).alloc (.cells #[.int .i64 (u : Nat)] 3))
  have b1 := (Boxed.new (w.alloc (.cells #[.int .i64 0] 3)) 44 (.pointer (some ⟨s, 0, none⟩))).alloc (.cells #[.int .i64 (u : Nat)] 3)
  have b2 := Boxed.new ((w.alloc (.cells #[.int .i64 0] 3)).alloc (.cells #[.pointer (some ⟨s, 0, none⟩)] 44)) 3 (.int .i64 (u : Nat))
  simp only [World.size_alloc] at b1 b2
  have hB0 : Below w.heap.size w (((w.alloc (.cells #[.int .i64 0] 3)).alloc (.cells #[.pointer (some ⟨s, 0, none⟩)] 44)).alloc (.cells #[.int .i64 (u : Nat)] 3)) := (((Below.refl _ _).alloc (Nat.le_refl _) _).alloc (by simp) _).alloc (by simp; omega) _
  have hsz : (((w.alloc (.cells #[.int .i64 0] 3)).alloc (.cells #[.pointer (some ⟨s, 0, none⟩)] 44)).alloc (.cells #[.int .i64 (u : Nat)] 3)).heap.size = w.heap.size + 3 := by simp
  generalize ((w.alloc (.cells #[.int .i64 0] 3)).alloc (.cells #[.pointer (some ⟨s, 0, none⟩)] 44)).alloc (.cells #[.int .i64 (u : Nat)] 3) = W0 at *
  have hlen := hid (chl_length (bitAt bs) bs.length u)
  have hkl := hid (kids_le (bitAt bs) bs.length u)
  refine wpIn_rangeFunc_ownF (n := 8) rfl (by omega) (gf := 116) (lb := #[.pointer (some ⟨w.heap.size + 1 + 1, 0, none⟩), .pointer (some ⟨w.heap.size + 1, 0, none⟩)]) rfl trivial (enters_of Tryd.func116 (by kernel_rfl) rfl)
    (children_stops (8 - 1) (by omega) (w.heap.size + 1) (w.heap.size + 1 + 1) s bs u w W0 hs HB.out HU.out hB0 b1 b2) kidsK_t (kidsK_b hB0.size) (Below.refl _ _) (fun _ => rfl)
    (fun pre W => Boxed W w.heap.size 3 (.int .i64 (pre.length : Nat)) ∧ Below w.heap.size w W)
    (fun c pre W => False)
    (OwnFrom.and (Own.from (boxed_own _ _ (fun pre : List (Nat × Nat) => .int .i64 (pre.length : Nat))) _) (ownFrom_below (Nat.le_refl _) (by omega)))
    (fun c => ownFrom_pure _ _)
    ⟨b0, hB0⟩
    (fun x => { tmps := #[.pointer (some ⟨s, 0, none⟩), .int .i64 (u : Nat), undef, undef, .int .i64 0, .int .i64 0, .pointer (some ⟨w.heap.size, 0, none⟩), .pointer (some ⟨s, 0, none⟩), .int .i64 (u : Nat), .bool true, .bool false, .pointer (some ⟨s, 0, none⟩), .int .i64 (u : Nat), .func (.func 116) #[] #[.pointer (some ⟨w.heap.size + 1 + 1, 0, none⟩), .pointer (some ⟨w.heap.size + 1, 0, none⟩)], .int .i64 (x.1 : Nat), .int .i64 (x.2 : Nat), undef, undef, undef], defers := [] })
    ?assign ?body ?done ?stop
  case assign =>
    intro l x W K hK
    dsimp only [amE]
    gi_wp2
    first | exact hK | simpa using hK
  case body =>
    rintro r pre x W ⟨e0, hB⟩ hlt
    have k0 := e0.cell
    have k0f := e0.frozen
    have hkw := wrap_one pre.length (by have := hkl.out; omega)
    gi_wp2
    refine ⟨(KeepsOthers.setCell _ _ _), ⟨(Below.refl _ _).setCell (p := ⟨w.heap.size, 0, none⟩) (Nat.le_refl _) _, fun t v h => h.other (by omega) _, fun t v h => h.other (by omega) _⟩, ?_, hB.setCell (p := ⟨w.heap.size, 0, none⟩) (Nat.le_refl _) _⟩
    rw [List.length_append]
    exact e0.set _
  case done =>
    rintro D ys W hD rfl ⟨e0, hB⟩ hK
    have k0 := e0.cell
    rw [hlen.out] at k0
    gi_wp2
    refine ⟨by simp, .inl ⟨_, _, rfl, run_takeDeferred hK, ?_⟩⟩
    refine ⟨.tuple #[.int .i64 (kids (bitAt bs) bs.length u : Nat), .int .i64 0], ?_, rfl, hB.trans (belowK_b (w := w) (Nat.le_refl _) _ D _ _ (by omega) hK rfl rfl)⟩
    simp [results, Tryd.f34, go_sem]
  case stop =>
    rintro D c pre W hD hpre h
    exact h.elim
end Go.Proofs.YtlpnbkfcbamnbaaDoor
