/- Walks: reaches as complex numbers (minmax). -/
import Derived.Test.YtacllonekidocaaGreatDoorWordP
import Derived.Test.YtacllonekidocaaGreatDoorParenP
import Derived.Laws.Externs
set_option linter.unusedVariables false
set_option linter.unusedSimpArgs false
set_option maxRecDepth 100000
namespace Go.Proofs.YtacllonekidocaaGreatDoor
open Go.RowKit L

theorem run_frombits (n : Int) (w : World) : (callFunc 170 #[.int .u64 n]).run Tryz.prog w = .ok (.value (.float .f64 n.toNat)) w := by
  have h := run_callFunc_extern (P := Tryz.prog) (f := 170) (e := Extern.MathFloatBits.float64frombits) Tryz.func170 (by kernel_rfl) (by kernel_rfl) (by kernel_rfl) (by kernel_rfl) #[.int .u64 n] w
  rw [h]; rfl

theorem inf_any (neg : Bool) (w : World) : Calls Tryz.prog 149 #[.int .i64 (if neg then -1 else 1)] w fun e w' => e = .returned (.float .f64 (if neg then ninf else pinf)) ∧ w = w' := by
  have hfb := run_frombits
  cases neg
  · go_enter Tryz.func149, Tryz.ntmps149
    go_wp2
    go_ret
    exact ⟨rfl, rfl⟩
  · go_enter Tryz.func149, Tryz.ntmps149
    go_wp2
    go_ret
    exact ⟨rfl, rfl⟩

theorem nothing_any (w : World) : Calls Tryz.prog 126 #[] w fun e w' => e = .returned (.complex .f64 (lxf none) (uxf none)) ∧ w = w' := by
  go_enter Tryz.func126, Tryz.ntmps126
  go_wp2_with fail
  refine (inf_any false _).mono ?_
  rintro e w' ⟨rfl, rfl⟩
  go_wp2_with fail
  refine (inf_any true _).mono ?_
  rintro e w' ⟨rfl, rfl⟩
  go_wp2_with fail
  go_ret
  exact ⟨rfl, rfl⟩

theorem moved_any (r : Rc) (e : Int) (w : World) (hr : Bd r) (he : -100000000000 ≤ e ∧ e ≤ 100000000000) :
    Calls Tryz.prog 130 #[.complex .f64 (lxf r) (uxf r), .int .i64 e] w fun x w' => x = .returned (.complex .f64 (lxf (mv r e)) (uxf (mv r e))) ∧ w = w' := by
  have hadd := fun W t => run_add_cx (P := Tryz.prog) W t r e hr he
  have hfl : ∀ z, floatOfInt .f64 z = fl z := fun _ => rfl
  generalize lxf r = a at *
  generalize uxf r = b at *
  generalize lxf (mv r e) = a2 at *
  generalize uxf (mv r e) = b2 at *
  go_enter Tryz.func130, Tryz.ntmps130
  go_wp2
  go_ret
  exact ⟨rfl, rfl⟩

theorem mboth_any (r s : Rc) (w : World) (hr : Bd r) (hs : Bd s) :
    Calls Tryz.prog 129 #[.complex .f64 (lxf r) (uxf r), .complex .f64 (lxf s) (uxf s)] w fun x w' => x = .returned (.complex .f64 (lxf (bo r s)) (uxf (bo r s))) ∧ w = w' := by
  have hmin := fun W ts t => run_min_lx (P := Tryz.prog) W ts t r s hr hs
  have hmax := fun W ts t => run_max_ux (P := Tryz.prog) W ts t r s hr hs
  generalize lxf r = a at *
  generalize uxf r = b at *
  generalize lxf s = a1 at *
  generalize uxf s = b1 at *
  generalize lxf (bo r s) = a2 at *
  generalize uxf (bo r s) = b2 at *
  go_enter Tryz.func129, Tryz.ntmps129
  go_wp2
  go_ret
  exact ⟨rfl, rfl⟩

def L.inl : Rc → Int → Bool
  | none, _ => false
  | some p, d => decide (p.1 ≤ d)
def L.inu : Rc → Int → Bool
  | none, _ => false
  | some p, d => decide (d ≤ p.2)
/-- The bounds of a node's reaches. -/
theorem Bd.rf (f : Nat → Bool) (a b : Nat) (h : b ≤ 4294967296) : Bd (rf f a b) := by
  unfold L.rf
  split
  · exact Bd.none
  · have h1 := lo_bound (sh f a) (b - a)
    have h2 := hi_bound (sh f a) (b - a)
    exact Bd.some (by omega)
theorem Bd.rb (f : Nat → Bool) (a b : Nat) (h : b ≤ 4294967296) : Bd (rb f a b) := by
  unfold L.rb
  split
  · exact Bd.none
  · have h1 := lo_bound (sh f a) (b - 1 - a)
    have h2 := hi_bound (sh f a) (b - 1 - a)
    exact Bd.some (by omega)
/-- A small bound. -/
def Bs (r : Rc) : Prop := ∀ p, r = some p → (-4294967296 ≤ p.1 ∧ p.1 ≤ 4294967296) ∧ (-4294967296 ≤ p.2 ∧ p.2 ≤ 4294967296)
theorem Bs.bd {r : Rc} (h : Bs r) : Bd r := fun p e => by have := h p e; omega
theorem Bs.mv {r : Rc} (h : Bs r) {e : Int} (he : -9000000000 ≤ e ∧ e ≤ 9000000000) : Bd (mv r e) := fun p q => by
  cases r with
  | none => cases q
  | some u =>
    have := h u rfl
    simp only [L.mv, Option.map_some] at q
    injection q with q; subst q
    show (_ ≤ u.1 + e ∧ u.1 + e ≤ _) ∧ (_ ≤ u.2 + e ∧ u.2 + e ≤ _)
    omega
theorem Bs.rf (f : Nat → Bool) (a b : Nat) (h : b ≤ 4294967296) : Bs (rf f a b) := by
  unfold L.rf
  split
  · exact fun p e => by cases e
  · have h1 := lo_bound (sh f a) (b - a)
    have h2 := hi_bound (sh f a) (b - a)
    exact fun p e => by injection e with e; subst e; dsimp only; omega
theorem Bs.rb (f : Nat → Bool) (a b : Nat) (h : b ≤ 4294967296) : Bs (rb f a b) := by
  unfold L.rb
  split
  · exact fun p e => by cases e
  · have h1 := lo_bound (sh f a) (b - 1 - a)
    have h2 := hi_bound (sh f a) (b - 1 - a)
    exact fun p e => by injection e with e; subst e; dsimp only; omega

theorem undNode : ∃ fs, Tryz.prog.underlying 142 = some (.struct fs) := by
  have h : ((Tryz.prog.underlying 142).elim false (fun d => match d with | .struct _ => true | _ => false)) = true := by kernel_rfl
  cases hu : Tryz.prog.underlying 142 with
  | none => rw [hu] at h; cases h
  | some d =>
    rw [hu] at h
    cases d <;> first | exact ⟨_, rfl⟩ | cases h
theorem run_store_complex (w : World) (a : Addr) (x y : Nat) (m : Mode) : (store a (.complex .f64 x y) m).run Tryz.prog w = stored Tryz.prog w a (.complex .f64 x y) m := run_store Tryz.prog w a _ m rfl
/-- A node as a value. -/
def ndV (e : Int) (f k : Rc) : Value := .agg #[.int .i64 e, .complex .f64 (lxf f) (uxf f), .complex .f64 (lxf k) (uxf k)]

set_option maxHeartbeats 1000000 in
theorem join_any (e1 e2 : Int) (f1 k1 f2 k2 : Rc) (w : World) (he1 : -4294967296 ≤ e1 ∧ e1 ≤ 4294967296) (he2 : -4294967296 ≤ e2 ∧ e2 ≤ 4294967296) (hf1 : Bs f1) (hk1 : Bs k1) (hf2 : Bs f2) (hk2 : Bs k2) :
    Calls Tryz.prog 99 #[ndV e1 f1 k1, ndV e2 f2 k2] w fun x w' => x = .returned (ndV (e1 + e2) (bo f1 (mv f2 e1)) (bo k1 (mv k2 e1))) ∧ Below w.heap.size w w' := by
  have hM1 := hid (fun W => moved_any f2 e1 W hf2.bd (by omega))
  have hM2 := hid (fun W => moved_any k2 e1 W hk2.bd (by omega))
  have hO1 := hid (fun W => mboth_any f1 (mv f2 e1) W hf1.bd (hf2.mv (by omega)))
  have hO2 := hid (fun W => mboth_any k1 (mv k2 e1) W hk1.bd (hk2.mv (by omega)))
  have hew : IntKind.i64.wrap (e1 + e2) = e1 + e2 := by rw [IntKind.wrap_i64]; omega
  clear hf1 hk1 hf2 hk2
  unfold ndV
  generalize lxf (bo f1 (mv f2 e1)) = a7 at *
  generalize uxf (bo f1 (mv f2 e1)) = b7 at *
  generalize lxf (bo k1 (mv k2 e1)) = a8 at *
  generalize uxf (bo k1 (mv k2 e1)) = b8 at *
  generalize lxf (mv f2 e1) = a5 at *
  generalize uxf (mv f2 e1) = b5 at *
  generalize lxf (mv k2 e1) = a6 at *
  generalize uxf (mv k2 e1) = b6 at *
  generalize lxf f1 = a1 at *
  generalize uxf f1 = b1 at *
  generalize lxf f2 = a2 at *
  generalize uxf f2 = b2 at *
  generalize lxf k1 = a3 at *
  generalize uxf k1 = b3 at *
  generalize lxf k2 = a4 at *
  generalize uxf k2 = b4 at *
  go_enter Tryz.func99, Tryz.ntmps99
  go_wp2_with fail
  obtain ⟨o1, ho1⟩ : ∃ o, o = Obj.cells #[.int .i64 e1, .complex .f64 a1 b1, .complex .f64 a3 b3] 142 := ⟨_, rfl⟩
  obtain ⟨o2, ho2⟩ : ∃ o, o = Obj.cells #[.int .i64 e2, .complex .f64 a2 b2, .complex .f64 a4 b4] 142 := ⟨_, rfl⟩
  obtain ⟨o3, ho3⟩ : ∃ o, o = Obj.cells #[.int .i64 0, .complex .f64 0 0, .complex .f64 0 0] 142 := ⟨_, rfl⟩
  obtain ⟨w3, hw3⟩ : ∃ w3, w3 = ((w.alloc o1).alloc o2).alloc o3 := ⟨_, rfl⟩
  have hB3 : Below w.heap.size w w3 := by rw [hw3]; exact (((Below.refl _ _).alloc (Nat.le_refl _) _).alloc (by simp) _).alloc (by simp; omega) _
  have hN1 : BlkIs w3 w.heap.size 142 #[.int .i64 e1, .complex .f64 a1 b1, .complex .f64 a3 b3] := by rw [hw3, ho1]; exact ((BlkIs.new _ _ _).alloc _).alloc _
  have hN2 : BlkIs w3 (w.heap.size + 1) 142 #[.int .i64 e2, .complex .f64 a2 b2, .complex .f64 a4 b4] := by
    rw [hw3, ho2]; have := (BlkIs.new (w.alloc o1) 142 #[.int .i64 e2, .complex .f64 a2 b2, .complex .f64 a4 b4]).alloc o3; simpa using this
  have hN3 : BlkIs w3 (w.heap.size + 2) 142 #[.int .i64 0, .complex .f64 0 0, .complex .f64 0 0] := by
    rw [hw3, ho3]; have := (BlkIs.new ((w.alloc o1).alloc o2) 142 #[.int .i64 0, .complex .f64 0 0, .complex .f64 0 0]); simpa using this
  rw [ho1, ho2, ho3] at hw3
  rw [← hw3]
  clear hw3 ho1 ho2 ho3
  have c10 := hN1.cell 0
  have c11 := hN1.cell 1
  have c12 := hN1.cell 2
  have c20 := hN2.cell 0
  have c21 := hN2.cell 1
  have c22 := hN2.cell 2
  have c30 := hN3.cell 0
  have c31 := hN3.cell 1
  have c32 := hN3.cell 2
  have f30 := hN3.frozen 0
  have f31 := hN3.frozen 1
  have f32 := hN3.frozen 2
  have hsc := fun (W : World) (a : Addr) (x y : Nat) (m : Mode) => run_store_complex W a x y m
  have d31 : ∀ v, (w3.setCell ⟨w.heap.size + 2, 0, none⟩ v).cell? ⟨w.heap.size + 2, 1, none⟩ = some (.complex .f64 0 0) := fun v => (hN3.put 0 v).cell 1
  have g31 : ∀ v, (w3.setCell ⟨w.heap.size + 2, 0, none⟩ v).frozen? ⟨w.heap.size + 2, 1, none⟩ = false := fun v => (hN3.put 0 v).frozen 1
  have d32 : ∀ v v', ((w3.setCell ⟨w.heap.size + 2, 0, none⟩ v).setCell ⟨w.heap.size + 2, 1, none⟩ v').cell? ⟨w.heap.size + 2, 2, none⟩ = some (.complex .f64 0 0) := fun v v' => ((hN3.put 0 v).put 1 v').cell 2
  have g32 : ∀ v v', ((w3.setCell ⟨w.heap.size + 2, 0, none⟩ v).setCell ⟨w.heap.size + 2, 1, none⟩ v').frozen? ⟨w.heap.size + 2, 2, none⟩ = false := fun v v' => ((hN3.put 0 v).put 1 v').frozen 2
  have e30 : ∀ v v' v'', (((w3.setCell ⟨w.heap.size + 2, 0, none⟩ v).setCell ⟨w.heap.size + 2, 1, none⟩ v').setCell ⟨w.heap.size + 2, 2, none⟩ v'').cell? ⟨w.heap.size + 2, 0, none⟩ = some v := fun v v' v'' => (((hN3.put 0 v).put 1 v').put 2 v'').cell 0
  have e31 : ∀ v v' v'', (((w3.setCell ⟨w.heap.size + 2, 0, none⟩ v).setCell ⟨w.heap.size + 2, 1, none⟩ v').setCell ⟨w.heap.size + 2, 2, none⟩ v'').cell? ⟨w.heap.size + 2, 1, none⟩ = some v' := fun v v' v'' => (((hN3.put 0 v).put 1 v').put 2 v'').cell 1
  have e32 : ∀ v v' v'', (((w3.setCell ⟨w.heap.size + 2, 0, none⟩ v).setCell ⟨w.heap.size + 2, 1, none⟩ v').setCell ⟨w.heap.size + 2, 2, none⟩ v'').cell? ⟨w.heap.size + 2, 2, none⟩ = some v'' := fun v v' v'' => (((hN3.put 0 v).put 1 v').put 2 v'').cell 2
  refine wp_region_still_tail 22 (by kernel_rfl) (by kernel_rfl) ?_
  simp only [List.take_succ_cons, List.take_zero, List.drop_succ_cons, List.drop_zero]
  repeat still_step
  still_call ((hM1.out _).mono fun e w' h => ⟨h.1, h.2.symm⟩)
  repeat still_step
  still_call ((hO1.out _).mono fun e w' h => ⟨h.1, h.2.symm⟩)
  repeat still_step
  still_call ((hM2.out _).mono fun e w' h => ⟨h.1, h.2.symm⟩)
  repeat still_step
  still_call ((hO2.out _).mono fun e w' h => ⟨h.1, h.2.symm⟩)
  repeat still_step
  refine wpStill_nil ?_
  change wpList _ _ _ _ _ (World.drew _)
  go_wp2_with fail
  obtain ⟨fs, hd1⟩ := undNode
  (try simp only [Exit.inBlock, Exit.then])
  refine bodyPost_ret (v := .agg #[.int .i64 (e1 + e2), .complex .f64 a7 b7, .complex .f64 a8 b8]) ?hr rfl ?_
  case hr => exact results_cell_row rfl _ _ (w.heap.size + 1 + 1) 142 _ (0, 0) _ rfl (show BlkIs _ _ _ _ from ((hN3.put 0 _).put 1 _).put 2 _) hd1 rfl (by kernel_rfl)
  exact ⟨rfl, (((hB3.setCell (by simp; omega) _).setCell (by simp; omega) _).setCell (by simp; omega) _).drew⟩
end Go.Proofs.YtacllonekidocaaGreatDoor
