/- Proof text. -/
import Derived.Test.YtgpbpgpolpakjaaGreatDoorWordP
import Derived.Test.YtgpbpgpolpakjaaGreatDoorParenP
import Derived.Laws.Externs
import Derived.Deep.RegionLaw
set_option maxHeartbeats 2000000
set_option linter.unusedVariables false
set_option linter.unusedSimpArgs false
set_option maxRecDepth 100000
namespace Go.Proofs.YtgpbpgpolpakjaaGreatDoor
open Go.RowKit L
theorem zs9 (n : Int) (w : World) : (callFunc 213 #[.int .u64 n]).run Tryz.prog w = .ok (.value (.float .f64 n.toNat)) w := by
 have h := run_callFunc_extern (P := Tryz.prog) (f := 213) (e := Extern.MathFloatBits.float64frombits) Tryz.func213 (by kernel_rfl) (by kernel_rfl) (by kernel_rfl) (by kernel_rfl) #[.int .u64 n] w
 rw [h]; rfl
theorem zwp (neg : Bool) (w : World) : Calls Tryz.prog 191 #[.int .i64 (if neg then -1 else 1)] w fun e w' => e = .returned (.float .f64 (if neg then ninf else pinf)) ∧ w = w' := by
 have hfb := zs9
 cases neg
 ·go_enter Tryz.func191, Tryz.ntmps191
  go_wp2
  go_ret
  exact ⟨rfl, rfl⟩
 ·go_enter Tryz.func191, Tryz.ntmps191
  go_wp2
  go_ret
  exact ⟨rfl, rfl⟩
theorem zl7 (w : World) : Calls Tryz.prog 166 #[] w fun e w' => e = .returned (.complex .f64 (lxf none) (uxf none)) ∧ w = w' := by
 go_enter Tryz.func166, Tryz.ntmps166
 go_wp2_with fail
 refine (zwp false _).mono ?_
 rintro e w' ⟨rfl, rfl⟩
 go_wp2_with fail
 refine (zwp true _).mono ?_
 rintro e w' ⟨rfl, rfl⟩
 go_wp2_with fail
 go_ret
 exact ⟨rfl, rfl⟩
theorem zqe (r : Rc) (e : Int) (w : World) (hr : Bd r) (he : -100000000000 ≤ e ∧ e ≤ 100000000000) :
  Calls Tryz.prog 170 #[.complex .f64 (lxf r) (uxf r), .int .i64 e] w fun x w' => x = .returned (.complex .f64 (lxf (mv r e)) (uxf (mv r e))) ∧ w = w' := by
 have hadd := fun W t => zxp (P := Tryz.prog) W t r e hr he
 have hfl : ∀ z, floatOfInt .f64 z = fl z := fun _ => rfl
 generalize lxf r = a at *
 generalize uxf r = b at *
 generalize lxf (mv r e) = a2 at *
 generalize uxf (mv r e) = b2 at *
 go_enter Tryz.func170, Tryz.ntmps170
 go_wp2
 go_ret
 exact ⟨rfl, rfl⟩
theorem zkn (r s : Rc) (w : World) (hr : Bd r) (hs : Bd s) :
  Calls Tryz.prog 169 #[.complex .f64 (lxf r) (uxf r), .complex .f64 (lxf s) (uxf s)] w fun x w' => x = .returned (.complex .f64 (lxf (bo r s)) (uxf (bo r s))) ∧ w = w' := by
 have hmin := fun W ts t => zxn (P := Tryz.prog) W ts t r s hr hs
 have hmax := fun W ts t => zxo (P := Tryz.prog) W ts t r s hr hs
 generalize lxf r = a at *
 generalize uxf r = b at *
 generalize lxf s = a1 at *
 generalize uxf s = b1 at *
 generalize lxf (bo r s) = a2 at *
 generalize uxf (bo r s) = b2 at *
 go_enter Tryz.func169, Tryz.ntmps169
 go_wp2
 go_ret
 exact ⟨rfl, rfl⟩
def L.inl : Rc → Int → Bool
 | none, _ => false
 | some p, d => decide (p.1 ≤ d)
def Bs (r : Rc) : Prop := ∀ p, r = some p → (-4294967296 ≤ p.1 ∧ p.1 ≤ 4294967296) ∧ (-4294967296 ≤ p.2 ∧ p.2 ≤ 4294967296)
theorem Bs.bd {r : Rc} (h : Bs r) : Bd r := fun p e => by have := h p e; omega
theorem Bs.mv {r : Rc} (h : Bs r) {e : Int} (he : -9000000000 ≤ e ∧ e ≤ 9000000000) : Bd (mv r e) := fun p q => by
 cases r with
 | none => cases q
 | some u =>
   have := h u rfl
   simp only [L.mv, Option.map_some] at q
   injection q with q; subst q
   show (_ ≤ u.1 + e ∧ u.1 + e ≤ _) ∧ (_ ≤ u.2 + e ∧ u.2 + e ≤ _)
   omega
theorem Bs.rf (f : Nat → Bool) (a b : Nat) (h : b ≤ 4294967296) : Bs (rf f a b) := by
 unfold L.rf
 split
 ·exact fun p e => by cases e
 ·have h1 := zg5 (sh f a) (b - a)
  have h2 := ziy (sh f a) (b - a)
  exact fun p e => by injection e with e; subst e; dsimp only; omega
theorem Bs.rb (f : Nat → Bool) (a b : Nat) (h : b ≤ 4294967296) : Bs (rb f a b) := by
 unfold L.rb
 split
 ·exact fun p e => by cases e
 ·have h1 := zg5 (sh f a) (b - 1 - a)
  have h2 := ziy (sh f a) (b - 1 - a)
  exact fun p e => by injection e with e; subst e; dsimp only; omega
theorem zwq : ∃ fs, Tryz.prog.underlying 191 = some (.struct fs) := by
 have h : ((Tryz.prog.underlying 191).elim false (fun d => match d with | .struct _ => true | _ => false)) = true := by kernel_rfl
 cases hu : Tryz.prog.underlying 191 with
 | none => rw [hu] at h; cases h
 | some d =>
   rw [hu] at h
   cases d <;> first | exact ⟨_, rfl⟩ | cases h
theorem zdb (w : World) (a : Addr) (x y : Nat) (m : Mode) : (store a (.complex .f64 x y) m).run Tryz.prog w = stored Tryz.prog w a (.complex .f64 x y) m := run_store Tryz.prog w a _ m rfl
def ndV (e : Int) (f k : Rc) : Value := .agg #[.int .i64 e, .complex .f64 (lxf f) (uxf f), .complex .f64 (lxf k) (uxf k)]
theorem z2k (e1 e2 : Int) (f1 k1 f2 k2 : Rc) (w : World) (he1 : -4294967296 ≤ e1 ∧ e1 ≤ 4294967296) (he2 : -4294967296 ≤ e2 ∧ e2 ≤ 4294967296) (hf1 : Bs f1) (hk1 : Bs k1) (hf2 : Bs f2) (hk2 : Bs k2) :
  Calls Tryz.prog 134 #[ndV e1 f1 k1, ndV e2 f2 k2] w fun x w' => x = .returned (ndV (e1 + e2) (bo f1 (mv f2 e1)) (bo k1 (mv k2 e1))) ∧ Below w.heap.size w w' := by
 have hM1 := hid (fun W => zqe f2 e1 W hf2.bd (by omega))
 have hM2 := hid (fun W => zqe k2 e1 W hk2.bd (by omega))
 have hO1 := hid (fun W => zkn f1 (mv f2 e1) W hf1.bd (hf2.mv (by omega)))
 have hO2 := hid (fun W => zkn k1 (mv k2 e1) W hk1.bd (hk2.mv (by omega)))
 have hew : IntKind.i64.wrap (e1 + e2) = e1 + e2 := by rw [IntKind.wrap_i64]; omega
 clear hf1 hk1 hf2 hk2
 unfold ndV
 generalize lxf (bo f1 (mv f2 e1)) = a7 at *
 generalize uxf (bo f1 (mv f2 e1)) = b7 at *
 generalize lxf (bo k1 (mv k2 e1)) = a8 at *
 generalize uxf (bo k1 (mv k2 e1)) = b8 at *
 generalize lxf (mv f2 e1) = a5 at *
 generalize uxf (mv f2 e1) = b5 at *
 generalize lxf (mv k2 e1) = a6 at *
 generalize uxf (mv k2 e1) = b6 at *
 generalize lxf f1 = a1 at *
 generalize uxf f1 = b1 at *
 generalize lxf f2 = a2 at *
 generalize uxf f2 = b2 at *
 generalize lxf k1 = a3 at *
 generalize uxf k1 = b3 at *
 generalize lxf k2 = a4 at *
 generalize uxf k2 = b4 at *
 go_enter Tryz.func134, Tryz.ntmps134
 go_wp2_with fail
 obtain ⟨o1, ho1⟩ : ∃ o, o = Obj.cells #[.int .i64 e1, .complex .f64 a1 b1, .complex .f64 a3 b3] 191 := ⟨_, rfl⟩
 obtain ⟨o2, ho2⟩ : ∃ o, o = Obj.cells #[.int .i64 e2, .complex .f64 a2 b2, .complex .f64 a4 b4] 191 := ⟨_, rfl⟩
 obtain ⟨o3, ho3⟩ : ∃ o, o = Obj.cells #[.int .i64 0, .complex .f64 0 0, .complex .f64 0 0] 191 := ⟨_, rfl⟩
 obtain ⟨w3, hw3⟩ : ∃ w3, w3 = ((w.alloc o1).alloc o2).alloc o3 := ⟨_, rfl⟩
 have hB3 : Below w.heap.size w w3 := by rw [hw3]; exact (((Below.refl _ _).alloc (Nat.le_refl _) _).alloc (by simp) _).alloc (by simp; omega) _
 have hN1 : za w3 w.heap.size 191 #[.int .i64 e1, .complex .f64 a1 b1, .complex .f64 a3 b3] := by rw [hw3, ho1]; exact ((za.new _ _ _).alloc _).alloc _
 have hN2 : za w3 (w.heap.size + 1) 191 #[.int .i64 e2, .complex .f64 a2 b2, .complex .f64 a4 b4] := by
  rw [hw3, ho2]; have := (za.new (w.alloc o1) 191 #[.int .i64 e2, .complex .f64 a2 b2, .complex .f64 a4 b4]).alloc o3; simpa using this
 have hN3 : za w3 (w.heap.size + 2) 191 #[.int .i64 0, .complex .f64 0 0, .complex .f64 0 0] := by
  rw [hw3, ho3]; have := (za.new ((w.alloc o1).alloc o2) 191 #[.int .i64 0, .complex .f64 0 0, .complex .f64 0 0]); simpa using this
 rw [ho1, ho2, ho3] at hw3
 rw [← hw3]
 clear hw3 ho1 ho2 ho3
 have c10 := hN1.cell 0
 have c11 := hN1.cell 1
 have c12 := hN1.cell 2
 have c20 := hN2.cell 0
 have c21 := hN2.cell 1
 have c22 := hN2.cell 2
 have c30 := hN3.cell 0
 have c31 := hN3.cell 1
 have c32 := hN3.cell 2
 have f30 := hN3.frozen 0
 have f31 := hN3.frozen 1
 have f32 := hN3.frozen 2
 have hsc := fun (W : World) (a : Addr) (x y : Nat) (m : Mode) => zdb W a x y m
 have d31 : ∀ v, (w3.setCell ⟨w.heap.size + 2, 0, none⟩ v).cell? ⟨w.heap.size + 2, 1, none⟩ = some (.complex .f64 0 0) := fun v => (hN3.put 0 v).cell 1
 have g31 : ∀ v, (w3.setCell ⟨w.heap.size + 2, 0, none⟩ v).frozen? ⟨w.heap.size + 2, 1, none⟩ = false := fun v => (hN3.put 0 v).frozen 1
 have d32 : ∀ v v', ((w3.setCell ⟨w.heap.size + 2, 0, none⟩ v).setCell ⟨w.heap.size + 2, 1, none⟩ v').cell? ⟨w.heap.size + 2, 2, none⟩ = some (.complex .f64 0 0) := fun v v' => ((hN3.put 0 v).put 1 v').cell 2
 have g32 : ∀ v v', ((w3.setCell ⟨w.heap.size + 2, 0, none⟩ v).setCell ⟨w.heap.size + 2, 1, none⟩ v').frozen? ⟨w.heap.size + 2, 2, none⟩ = false := fun v v' => ((hN3.put 0 v).put 1 v').frozen 2
 have e30 : ∀ v v' v'', (((w3.setCell ⟨w.heap.size + 2, 0, none⟩ v).setCell ⟨w.heap.size + 2, 1, none⟩ v').setCell ⟨w.heap.size + 2, 2, none⟩ v'').cell? ⟨w.heap.size + 2, 0, none⟩ = some v := fun v v' v'' => (((hN3.put 0 v).put 1 v').put 2 v'').cell 0
 have e31 : ∀ v v' v'', (((w3.setCell ⟨w.heap.size + 2, 0, none⟩ v).setCell ⟨w.heap.size + 2, 1, none⟩ v').setCell ⟨w.heap.size + 2, 2, none⟩ v'').cell? ⟨w.heap.size + 2, 1, none⟩ = some v' := fun v v' v'' => (((hN3.put 0 v).put 1 v').put 2 v'').cell 1
 have e32 : ∀ v v' v'', (((w3.setCell ⟨w.heap.size + 2, 0, none⟩ v).setCell ⟨w.heap.size + 2, 1, none⟩ v').setCell ⟨w.heap.size + 2, 2, none⟩ v'').cell? ⟨w.heap.size + 2, 2, none⟩ = some v'' := fun v v' v'' => (((hN3.put 0 v).put 1 v').put 2 v'').cell 2
 refine wp_region_still_tail 22 (by kernel_rfl) (by kernel_rfl) ?_
 simp only [List.take_succ_cons, List.take_zero, List.drop_succ_cons, List.drop_zero]
 repeat still_step
 still_call ((hM1.out _).mono fun e w' h => ⟨h.1, h.2.symm⟩)
 repeat still_step
 still_call ((hO1.out _).mono fun e w' h => ⟨h.1, h.2.symm⟩)
 repeat still_step
 still_call ((hM2.out _).mono fun e w' h => ⟨h.1, h.2.symm⟩)
 repeat still_step
 still_call ((hO2.out _).mono fun e w' h => ⟨h.1, h.2.symm⟩)
 repeat still_step
 refine wpStill_nil ?_
 change wpList _ _ _ _ _ (World.drew _)
 go_wp2_with fail
 obtain ⟨fs, hd1⟩ := zwq
 (try simp only [Exit.inBlock, Exit.then])
 refine bodyPost_ret (v := .agg #[.int .i64 (e1 + e2), .complex .f64 a7 b7, .complex .f64 a8 b8]) ?hr rfl ?_
 case hr => exact results_cell_row rfl _ _ (w.heap.size + 1 + 1) 191 _ (0, 0) _ rfl (show za _ _ _ _ from ((hN3.put 0 _).put 1 _).put 2 _) hd1 rfl (by kernel_rfl)
 exact ⟨rfl, (((hB3.setCell (by simp; omega) _).setCell (by simp; omega) _).setCell (by simp; omega) _).drew⟩
theorem zko : fl 0 = 0 := by decide +kernel
theorem zu7 (g : Nat) (A : Option Addr) (c : Nat) (bs : List Bool) (a b : Nat) (w : World) (hr : zo w g A c bs) (hab : a ≤ b) (hb : b ≤ bs.length) :
  Calls Tryz.prog 167 #[.pointer (some ⟨g, 0, none⟩), .int .i64 (a : Nat), .int .i64 (b : Nat)] w fun e w' => e = .returned (.int .i64 (eb (zb bs) a b)) ∧ ∃ m, w' = w.drewN m := by
 have h := zu6 g A c bs (a : Nat) (b : Nat) w hr
 have e1 : held bs.length (a : Nat) = a := by unfold held; omega
 have e2 : zci bs.length (a : Nat) (b : Nat) = b := by unfold zci; rw [e1]; omega
 rwa [e1, e2] at h
theorem znu (g : Nat) (A : Option Addr) (c : Nat) (bs : List Bool) (a b : Nat) (w : World) (hr : zo w g A c bs) (hab : a < b) (hb : b ≤ bs.length) :
  Calls Tryz.prog 168 #[.pointer (some ⟨g, 0, none⟩), .int .i64 (a : Nat), .int .i64 (b : Nat)] w fun e w' => e = .returned (.complex .f64 (lxf (rf (zb bs) a b)) (uxf (rf (zb bs) a b))) ∧ ∃ m, w' = w.drewN m := by
 have h := zxw g A c bs (a : Nat) (b : Nat) w hr
 have e1 : held bs.length (a : Nat) = a := by unfold held; omega
 have e2 : zci bs.length (a : Nat) (b : Nat) = b := by unfold zci; rw [e1]; omega
 rw [e1, e2] at h
 have e3 : rf (zb bs) a b = some (lo (sh (zb bs) a) (b - a), hi (sh (zb bs) a) (b - a)) := by unfold rf; rw [if_neg (by omega)]
 rw [e3]
 exact h
theorem z2l (g : Nat) (A : Option Addr) (c : Nat) (bs : List Bool) (i : Nat) (w : World) (hr : zo w g A c bs) (hi : i ≤ 8589934592) :
  Calls Tryz.prog 133 #[.pointer (some ⟨g, 0, none⟩), .int .i64 (i : Nat)] w fun x w' =>
   x = .returned (ndV (eb (zb bs) (min i bs.length) (min (i + 512) bs.length)) (rf (zb bs) (min i bs.length) (min (i + 512) bs.length)) (rb (zb bs) (min i bs.length) (min (i + 512) bs.length))) ∧ Below w.heap.size w w' := by
 have hsm := hr.small
 have hcl := hr.cells.2
 have hiw : IntKind.i64.wrap ((i : Int) + 512) = (i : Int) + 512 := by rw [IntKind.wrap_i64]; omega
 obtain ⟨b, hb⟩ : ∃ b, b = min (i + 512) bs.length := ⟨_, rfl⟩
 have hmin : min ((i : Int) + 512) (bs.length : Int) = (b : Int) := by omega
 rw [← hb]
 obtain ⟨fs, hd1⟩ := zwq
 have hsc := fun (W : World) (a : Addr) (x y : Nat) (m : Mode) => zdb W a x y m
 obtain ⟨o0, ho0⟩ : ∃ o, o = Obj.cells #[.int .i64 0, .complex .f64 0 0, .complex .f64 0 0] 191 := ⟨_, rfl⟩
 obtain ⟨w1, hw1⟩ : ∃ w1, w1 = w.alloc o0 := ⟨_, rfl⟩
 have hB1 : Below w.heap.size w w1 := by rw [hw1]; exact (Below.refl _ _).alloc (Nat.le_refl _) _
 have hN1 : za w1 w.heap.size 191 #[.int .i64 0, .complex .f64 0 0, .complex .f64 0 0] := by rw [hw1, ho0]; exact za.new _ _ _
 rw [ho0] at hw1
 have hr1 := hr.below hB1
 have hcl1 := hr1.cells.2
 have hz1 := hB1.size
 rcases Nat.lt_or_ge i bs.length with hlt | hge
 ·have ha : min i bs.length = i := by omega
  rw [ha]
  have hib : i < b := by omega
  have hbn : b ≤ bs.length := by omega
  have hge2 : ¬ ((b : Int) ≤ (i : Int)) := by omega
  have hge2N : ¬ b ≤ i := by omega
  clear ha hb
  have hb1 : IntKind.i64.wrap ((b : Int) - 1) = ((b - 1 : Nat) : Int) := by rw [IntKind.wrap_i64]; omega
  have HEX := hid (fun W hW => zu7 g A c bs i b W hW (by omega) hbn)
  have HRE := hid (fun W hW => znu g A c bs i b W hW hib hbn)
  obtain ⟨b', hb'⟩ : ∃ b', b' = b - 1 := ⟨_, rfl⟩
  rw [← hb'] at hb1
  have HB' := hid hb'
  have HRB := hid (show i < b' → ∀ W, zo W g A c bs → _ from fun h1 W hW => znu g A c bs i b' W hW (by omega) (by omega))
  have HBO := hid (fun W => zkn (some (0, 0)) (rf (zb bs) i b') W (Bd.some (by omega)) (Bs.rf _ _ _ (by omega)).bd)
  have HBE := hid (show i < b' → bo (some (0, 0)) (rf (zb bs) i b') = rb (zb bs) i b from fun h1 => by subst hb'; unfold rf rb; rw [if_neg (by omega), if_neg (by omega)]; rfl)
  have HBN := hid (show ¬ i < b' → lxf (rb (zb bs) i b) = 0 ∧ uxf (rb (zb bs) i b) = 0 from fun h1 => by
   have : b - 1 - i = 0 := by omega
   unfold rb; rw [if_neg (by omega), this]; exact ⟨zko, zko⟩)
  unfold ndV
  generalize rf (zb bs) i b = R1 at *
  generalize rb (zb bs) i b = R2 at *
  generalize rf (zb bs) i b' = R3 at *
  generalize eb (zb bs) i b = E1 at *
  clear hb'
  have c10 := hN1.cell 0
  go_enter Tryz.func133, Tryz.ntmps133
  go_wp2_with fail
  rw [← hw1]
  clear hw1
  refine (zar g (bs.length : Nat) _ hcl1).mono ?_
  rintro e w' ⟨rfl, rfl⟩
  go_wp2_with fail
  with_reducible refine (HEX.out _ hr1).mono ?_
  rintro e w' ⟨rfl, m1, rfl⟩
  go_wp2_with fail
  refine (HRE.out _ (by exact hr1)).mono ?_
  rintro e w' ⟨rfl, m2, rfl⟩
  have hB2 : Below w.heap.size w ((w1.drewN m1).drewN m2) := below_drewN (below_drewN hB1 _) _
  have hr2 : zo ((w1.drewN m1).drewN m2) g A c bs := hr1
  have hN2 : za ((w1.drewN m1).drewN m2) w.heap.size 191 #[.int .i64 0, .complex .f64 0 0, .complex .f64 0 0] := hN1
  clear hN1 hr1 hcl1 c10 hr hcl
  generalize (w1.drewN m1).drewN m2 = w2 at *
  by_cases h1 : i < b'
  ·have g1 : decide ((b' : Int) > (i : Int)) = true := decide_eq_true (by omega)
   have g1N : (i : Int) < (b' : Int) := by omega
   have HBE' := HBE.out h1
   have HRB' := hid (HRB.out h1)
   rw [HBE'] at HBO
   clear HBE HBN HRB HBE'
   go_wp2_with fail
   have hN3 := za.new w2 191 #[.int .i64 E1, .complex .f64 (lxf R1) (uxf R1), .complex .f64 0 0]
   have hN23 := hN2.alloc (.cells #[.int .i64 E1, .complex .f64 (lxf R1) (uxf R1), .complex .f64 0 0] 191)
   have hB3 := hB2.alloc hB2.size (.cells #[.int .i64 E1, .complex .f64 (lxf R1) (uxf R1), .complex .f64 0 0] 191)
   have hr3 := hr2.below ((Below.refl w2.heap.size w2).alloc (Nat.le_refl _) (.cells #[.int .i64 E1, .complex .f64 (lxf R1) (uxf R1), .complex .f64 0 0] 191))
   have hne : w.heap.size ≠ w2.heap.size := by have := hN2.lt; omega
   have hwn := hB2.size
   obtain ⟨n, hn⟩ : ∃ n, n = w2.heap.size := ⟨_, rfl⟩
   rw [← hn] at hN3 hne hwn ⊢
   generalize w2.alloc (.cells #[.int .i64 E1, .complex .f64 (lxf R1) (uxf R1), .complex .f64 0 0] 191) = w3 at *
   clear hN2 hB2 hr2 hn
   refine (HRB'.out _ hr3).mono ?_
   rintro e w' ⟨rfl, m3, rfl⟩
   have hB4 : Below w.heap.size w (w3.drewN m3) := below_drewN hB3 _
   have hN4 : za (w3.drewN m3) n 191 #[.int .i64 E1, .complex .f64 (lxf R1) (uxf R1), .complex .f64 0 0] := hN3
   have hN24 : za (w3.drewN m3) w.heap.size 191 #[.int .i64 0, .complex .f64 0 0, .complex .f64 0 0] := hN23
   clear hB3 hN3 hN23 hr3
   generalize w3.drewN m3 = w4 at *
   go_wp2_with fail
   have HBO2 := hid (show ∀ W, Calls Tryz.prog 169 #[.complex .f64 0 0, .complex .f64 (lxf R3) (uxf R3)] W fun x w' => x = .returned (.complex .f64 (lxf R2) (uxf R2)) ∧ W = w' from fun W => by
    have := HBO.out W
    rw [show lxf (some ((0 : Int), (0 : Int))) = 0 from zko, show uxf (some ((0 : Int), (0 : Int))) = 0 from zko] at this
    exact this)
   refine (HBO2.out _).mono ?_
   rintro e w' ⟨rfl, rfl⟩
   have c42 := hN4.cell 2
   have f42 := hN4.frozen 2
   have hP : ∀ v, za (w4.setCell ⟨n, 2, none⟩ v) w.heap.size 191 #[.int .i64 0, .complex .f64 0 0, .complex .f64 0 0] := fun v => hN24.far hne v
   have d0 : ∀ v, (w4.setCell ⟨n, 2, none⟩ v).cell? ⟨n, 0, none⟩ = some (.int .i64 E1) := fun v => (hN4.put 2 v).cell 0
   have d1 : ∀ v, (w4.setCell ⟨n, 2, none⟩ v).cell? ⟨n, 1, none⟩ = some (.complex .f64 (lxf R1) (uxf R1)) := fun v => (hN4.put 2 v).cell 1
   have d2 : ∀ v, (w4.setCell ⟨n, 2, none⟩ v).cell? ⟨n, 2, none⟩ = some v := fun v => (hN4.put 2 v).cell 2
   have rc0 : ∀ v, (w4.setCell ⟨n, 2, none⟩ v).cell? ⟨w.heap.size, 0, none⟩ = some (.int .i64 0) := fun v => (hP v).cell 0
   have rf0 : ∀ v, (w4.setCell ⟨n, 2, none⟩ v).frozen? ⟨w.heap.size, 0, none⟩ = false := fun v => (hP v).frozen 0
   have rc1 : ∀ v u, ((w4.setCell ⟨n, 2, none⟩ v).setCell ⟨w.heap.size, 0, none⟩ u).cell? ⟨w.heap.size, 1, none⟩ = some (.complex .f64 0 0) := fun v u => ((hP v).put 0 u).cell 1
   have rf1 : ∀ v u, ((w4.setCell ⟨n, 2, none⟩ v).setCell ⟨w.heap.size, 0, none⟩ u).frozen? ⟨w.heap.size, 1, none⟩ = false := fun v u => ((hP v).put 0 u).frozen 1
   have rc2 : ∀ v u u', (((w4.setCell ⟨n, 2, none⟩ v).setCell ⟨w.heap.size, 0, none⟩ u).setCell ⟨w.heap.size, 1, none⟩ u').cell? ⟨w.heap.size, 2, none⟩ = some (.complex .f64 0 0) := fun v u u' => (((hP v).put 0 u).put 1 u').cell 2
   have rf2 : ∀ v u u', (((w4.setCell ⟨n, 2, none⟩ v).setCell ⟨w.heap.size, 0, none⟩ u).setCell ⟨w.heap.size, 1, none⟩ u').frozen? ⟨w.heap.size, 2, none⟩ = false := fun v u u' => (((hP v).put 0 u).put 1 u').frozen 2
   go_wp2_with fail
   (try simp only [Exit.inBlock, Exit.then])
   refine bodyPost_ret (v := .agg #[.int .i64 E1, .complex .f64 (lxf R1) (uxf R1), .complex .f64 (lxf R2) (uxf R2)]) ?hr rfl ?_
   case hr => exact results_cell_row rfl _ _ w.heap.size 191 _ (0, 0) _ rfl (show za _ _ _ _ from (((hP _).put 0 _).put 1 _).put 2 _) hd1 rfl (by kernel_rfl)
   exact ⟨rfl, (((hB4.setCell hwn _).setCell (Nat.le_refl _) _).setCell (Nat.le_refl _) _).setCell (Nat.le_refl _) _⟩
  ·have g1 : decide ((b' : Int) > (i : Int)) = false := decide_eq_false (by omega)
   have g1N : ¬ ((i : Int) < (b' : Int)) := by omega
   have HB2 := hid (HBN.out h1)
   clear HBE HBN HRB HBO
   obtain ⟨o, ho⟩ : ∃ o, o = Obj.cells #[.int .i64 E1, .complex .f64 (lxf R1) (uxf R1), .complex .f64 0 0] 191 := ⟨_, rfl⟩
   have hP : za (w2.alloc (.cells #[.int .i64 E1, .complex .f64 (lxf R1) (uxf R1), .complex .f64 0 0] 191)) w.heap.size 191 #[.int .i64 0, .complex .f64 0 0, .complex .f64 0 0] := hN2.alloc _
   have hB3 := hB2.alloc hB2.size (.cells #[.int .i64 E1, .complex .f64 (lxf R1) (uxf R1), .complex .f64 0 0] 191)
   have hnew := za.new w2 191 #[.int .i64 E1, .complex .f64 (lxf R1) (uxf R1), .complex .f64 0 0]
   have d0 := hnew.cell 0
   have d1 := hnew.cell 1
   have d2 := hnew.cell 2
   have rc0 := hP.cell 0
   have rf0 := hP.frozen 0
   have rc1 : ∀ u, ((w2.alloc (.cells #[.int .i64 E1, .complex .f64 (lxf R1) (uxf R1), .complex .f64 0 0] 191)).setCell ⟨w.heap.size, 0, none⟩ u).cell? ⟨w.heap.size, 1, none⟩ = some (.complex .f64 0 0) := fun u => (hP.put 0 u).cell 1
   have rf1 : ∀ u, ((w2.alloc (.cells #[.int .i64 E1, .complex .f64 (lxf R1) (uxf R1), .complex .f64 0 0] 191)).setCell ⟨w.heap.size, 0, none⟩ u).frozen? ⟨w.heap.size, 1, none⟩ = false := fun u => (hP.put 0 u).frozen 1
   have rc2 : ∀ u u', (((w2.alloc (.cells #[.int .i64 E1, .complex .f64 (lxf R1) (uxf R1), .complex .f64 0 0] 191)).setCell ⟨w.heap.size, 0, none⟩ u).setCell ⟨w.heap.size, 1, none⟩ u').cell? ⟨w.heap.size, 2, none⟩ = some (.complex .f64 0 0) := fun u u' => ((hP.put 0 u).put 1 u').cell 2
   have rf2 : ∀ u u', (((w2.alloc (.cells #[.int .i64 E1, .complex .f64 (lxf R1) (uxf R1), .complex .f64 0 0] 191)).setCell ⟨w.heap.size, 0, none⟩ u).setCell ⟨w.heap.size, 1, none⟩ u').frozen? ⟨w.heap.size, 2, none⟩ = false := fun u u' => ((hP.put 0 u).put 1 u').frozen 2
   go_wp2_with fail
   (try simp only [Exit.inBlock, Exit.then])
   refine bodyPost_ret (v := .agg #[.int .i64 E1, .complex .f64 (lxf R1) (uxf R1), .complex .f64 0 0]) ?hr rfl ?_
   case hr => exact results_cell_row rfl _ _ w.heap.size 191 _ (0, 0) _ rfl (show za _ _ _ _ from ((hP.put 0 _).put 1 _).put 2 _) hd1 rfl (by kernel_rfl)
   exact ⟨by rw [HB2.out.1, HB2.out.2], ((hB3.setCell (Nat.le_refl _) _).setCell (Nat.le_refl _) _).setCell (Nat.le_refl _) _⟩
 ·have ha : min i bs.length = bs.length := by omega
  have hb2 : b = bs.length := by omega
  rw [ha, hb2, zov]
  unfold rf rb
  rw [if_pos (Nat.le_refl _), if_pos (Nat.le_refl _)]
  unfold ndV
  have hge2 : (b : Int) ≤ (i : Int) := by omega
  clear hb ha hb2
  have rc0 := hN1.cell 0
  have rf0 := hN1.frozen 0
  have rc1 : ∀ u, (w1.setCell ⟨w.heap.size, 0, none⟩ u).cell? ⟨w.heap.size, 1, none⟩ = some (.complex .f64 0 0) := fun u => (hN1.put 0 u).cell 1
  have rf1 : ∀ u, (w1.setCell ⟨w.heap.size, 0, none⟩ u).frozen? ⟨w.heap.size, 1, none⟩ = false := fun u => (hN1.put 0 u).frozen 1
  have rc2 : ∀ u u', ((w1.setCell ⟨w.heap.size, 0, none⟩ u).setCell ⟨w.heap.size, 1, none⟩ u').cell? ⟨w.heap.size, 2, none⟩ = some (.complex .f64 0 0) := fun u u' => ((hN1.put 0 u).put 1 u').cell 2
  have rf2 : ∀ u u', ((w1.setCell ⟨w.heap.size, 0, none⟩ u).setCell ⟨w.heap.size, 1, none⟩ u').frozen? ⟨w.heap.size, 2, none⟩ = false := fun u u' => ((hN1.put 0 u).put 1 u').frozen 2
  go_enter Tryz.func133, Tryz.ntmps133
  go_wp2_with fail
  rw [← hw1]
  clear hw1
  refine (zar g (bs.length : Nat) _ hcl1).mono ?_
  rintro e w' ⟨rfl, rfl⟩
  go_wp2_with fail
  refine (zl7 _).mono ?_
  rintro e w' ⟨rfl, rfl⟩
  go_wp2_with fail
  refine (zl7 _).mono ?_
  rintro e w' ⟨rfl, rfl⟩
  go_wp2_with fail
  (try simp only [Exit.inBlock, Exit.then])
  refine bodyPost_ret (v := .agg #[.int .i64 0, .complex .f64 (lxf none) (uxf none), .complex .f64 (lxf none) (uxf none)]) ?hr rfl ?_
  case hr => exact results_cell_row rfl _ _ w.heap.size 191 _ (0, 0) _ rfl (show za _ _ _ _ from ((hN1.put 0 _).put 1 _).put 2 _) hd1 rfl (by kernel_rfl)
  exact ⟨rfl, ((hB1.setCell (Nat.le_refl _) _).setCell (Nat.le_refl _) _).setCell (Nat.le_refl _) _⟩
theorem zz1 (k : Nat) (h : k ≤ 4294967296) : IntKind.i64.wrap ((k : Int) + 1) = (k : Int) + 1 := by rw [IntKind.wrap_i64]; omega
def zdp (nd : Nat → Int × Rc × Rc) (k : Nat) : Value :=
 if k % 3 = 0 then .int .i64 (nd (k / 3)).1 else if k % 3 = 1 then .complex .f64 (lxf (nd (k / 3)).2.1) (uxf (nd (k / 3)).2.1) else .complex .f64 (lxf (nd (k / 3)).2.2) (uxf (nd (k / 3)).2.2)
def zbi (nd : Nat → Int × Rc × Rc) (n : Nat) : Array Value := (Array.range n).map (zdp nd)
theorem za0 (nd : Nat → Int × Rc × Rc) (n k : Nat) (h : k < n) : (zbi nd n)[k]? = some (zdp nd k) := by
 unfold zbi; rw [Array.getElem?_map, Array.getElem?_range, if_pos h]; rfl
theorem znv (nd : Nat → Int × Rc × Rc) (j : Nat) : zdp nd (3 * j) = .int .i64 (nd j).1 := by
 unfold zdp; rw [if_pos (by omega), show 3 * j / 3 = j from by omega]
theorem znw (nd : Nat → Int × Rc × Rc) (j : Nat) : zdp nd (3 * j + 1) = .complex .f64 (lxf (nd j).2.1) (uxf (nd j).2.1) := by
 unfold zdp; rw [if_neg (by omega), if_pos (by omega), show (3 * j + 1) / 3 = j from by omega]
theorem zta (nd : Nat → Int × Rc × Rc) (j : Nat) : zdp nd (3 * j + 2) = .complex .f64 (lxf (nd j).2.2) (uxf (nd j).2.2) := by
 unfold zdp; rw [if_neg (by omega), if_neg (by omega), show (3 * j + 2) / 3 = j from by omega]
theorem znx (nd nd' : Nat → Int × Rc × Rc) (n j : Nat) (hj : ∀ k, k ≠ j → nd' k = nd k) :
  (((zbi nd n).setIfInBounds (3 * j) (.int .i64 (nd' j).1)).setIfInBounds (3 * j + 1) (.complex .f64 (lxf (nd' j).2.1) (uxf (nd' j).2.1))).setIfInBounds (3 * j + 2) (.complex .f64 (lxf (nd' j).2.2) (uxf (nd' j).2.2)) = zbi nd' n := by
 have hs : ∀ nd, (zbi nd n).size = n := fun nd => by simp [zbi]
 apply Array.ext_getElem?
 intro k
 rcases Nat.lt_or_ge k n with h | h
 ·rw [za0 nd' n k h]
  simp only [Array.getElem?_setIfInBounds, Array.size_setIfInBounds, hs]
  by_cases h2 : 3 * j + 2 = k
  ·subst h2; rw [if_pos rfl, if_pos h, zta]
  ·rw [if_neg h2]
   by_cases h1 : 3 * j + 1 = k
   ·subst h1; rw [if_pos rfl, if_pos h, znw]
   ·rw [if_neg h1]
    by_cases h0 : 3 * j = k
    ·subst h0; rw [if_pos rfl, if_pos h, znv]
    ·rw [if_neg h0, za0 nd n k h]
     have : k / 3 ≠ j := by omega
     unfold zdp; rw [hj _ this]
 ·rw [Array.getElem?_eq_none (by simp [hs]; omega), Array.getElem?_eq_none (by rw [hs]; omega)]
theorem zha {nd nd' : Nat → Int × Rc × Rc} {n : Nat} (h : ∀ k, k < n → nd (k / 3) = nd' (k / 3)) : zbi nd n = zbi nd' n := by
 apply Array.ext_getElem?
 intro k
 rcases Nat.lt_or_ge k n with hk | hk
 ·rw [za0 _ _ _ hk, za0 _ _ _ hk]; unfold zdp; rw [h k hk]
 ·rw [Array.getElem?_eq_none (by simp [zbi]; omega), Array.getElem?_eq_none (by simp [zbi]; omega)]
def nd0 : Int × Rc × Rc := (0, some (0, 0), some (0, 0))
theorem zhs : fl 0 = 0 := by decide +kernel
theorem zxx (n : Nat) : madeCells #[.int .i64 0, .complex .f64 0 0, .complex .f64 0 0] n = zbi (fun _ => nd0) n := by
 unfold madeCells zbi
 congr 1
 funext k
 unfold zdp
 have h : k % 3 = 0 ∨ k % 3 = 1 ∨ k % 3 = 2 := by omega
 have e : (nd0.1, nd0.2.1, nd0.2.2) = ((0 : Int), some (0, 0), some (0, 0)) := rfl
 have e2 : lxf nd0.2.1 = 0 ∧ uxf nd0.2.1 = 0 ∧ lxf nd0.2.2 = 0 ∧ uxf nd0.2.2 = 0 := ⟨zhs, zhs, zhs, zhs⟩
 show (#[Value.int .i64 0, .complex .f64 0 0, .complex .f64 0 0])[k % 3]! = _
 rcases h with h | h | h <;> simp [h, e2] <;> rfl
def zex (bs : List Bool) (h i : Nat) : Int × Rc × Rc := if i = 0 then nd0 else (nE (zb bs) bs.length (2 ^ h) i, nF (zb bs) bs.length (2 ^ h) i, nK (zb bs) bs.length (2 ^ h) i)
def ndS (p : Nat → Bool) (bs : List Bool) (h i : Nat) : Int × Rc × Rc := if p i then zex bs h i else nd0
def zbs (w : World) (g gl gx : Nat) (A : Option Addr) (c : Nat) (bs : List Bool) (h : Nat) : Prop :=
 za w g 189 #[.pointer (some ⟨gx, 0, none⟩), .slice (some ⟨gl, 0, none⟩) (2 * 2 ^ h) (2 * 2 ^ h), .int .i64 (2 ^ h : Nat)] ∧
  za w gl 191 (zbi (zex bs h) (6 * 2 ^ h)) ∧ zo w gx A c bs ∧ bs.length ≤ 512 * 2 ^ h ∧ (h = 0 ∨ 256 * 2 ^ h < bs.length)
section
variable {w : World} {g gl gx : Nat} {A : Option Addr} {c : Nat} {bs : List Bool} {h : Nat}
theorem zbs.blk (t : zbs w g gl gx A c bs h) : za w g 189 #[.pointer (some ⟨gx, 0, none⟩), .slice (some ⟨gl, 0, none⟩) (2 * 2 ^ h) (2 * 2 ^ h), .int .i64 (2 ^ h : Nat)] := t.1
theorem zbs.nodes (t : zbs w g gl gx A c bs h) : za w gl 191 (zbi (zex bs h) (6 * 2 ^ h)) := t.2.1
theorem zbs.row (t : zbs w g gl gx A c bs h) : zo w gx A c bs := t.2.2.1
theorem zbs.fits (t : zbs w g gl gx A c bs h) : bs.length ≤ 512 * 2 ^ h := t.2.2.2.1
theorem zbs.least (t : zbs w g gl gx A c bs h) : h = 0 ∨ 256 * 2 ^ h < bs.length := t.2.2.2.2
theorem zbs.below {w' : World} (t : zbs w g gl gx A c bs h) (hb : Below w.heap.size w w') : zbs w' g gl gx A c bs h :=
 ⟨t.1.below hb, t.2.1.below hb, t.2.2.1.below hb, t.2.2.2⟩
theorem zbs.cellE (t : zbs w g gl gx A c bs h) {i : Nat} (h0 : 0 < i) (hi : i < 2 * 2 ^ h) : w.cell? ⟨gl, 3 * i, none⟩ = some (.int .i64 (nE (zb bs) bs.length (2 ^ h) i)) := by
 rw [t.nodes.cell, za0 _ _ _ (by omega), znv]; unfold zex; rw [if_neg (by omega)]
theorem zbs.cellF (t : zbs w g gl gx A c bs h) {i : Nat} (h0 : 0 < i) (hi : i < 2 * 2 ^ h) : w.cell? ⟨gl, 3 * i + 1, none⟩ = some (.complex .f64 (lxf (nF (zb bs) bs.length (2 ^ h) i)) (uxf (nF (zb bs) bs.length (2 ^ h) i))) := by
 rw [t.nodes.cell, za0 _ _ _ (by omega), znw]; unfold zex; rw [if_neg (by omega)]
end
theorem zkp {h n : Nat} (hl : h = 0 ∨ 256 * 2 ^ h < n) (hn : n ≤ 4294967296) : 2 ^ h ≤ 16777216 := by
 rcases hl with rfl | hl
 ·simp
 ·omega
theorem ztb (f : Nat → Bool) (n F i : Nat) (hn : n ≤ 4294967296) (hi : i ≠ 0) : -4294967296 ≤ nE f n F i ∧ nE f n F i ≤ 4294967296 := by
 have h1 := z7s f (nA n F i) (nB n F i)
 have h2 := znh n F i hi
 unfold nE
 omega
theorem ztc (f : Nat → Bool) (n F i : Nat) (hn : n ≤ 4294967296) (hi : i ≠ 0) : Bs (nF f n F i) := Bs.rf _ _ _ (by have := znh n F i hi; omega)
theorem ztd (f : Nat → Bool) (n F i : Nat) (hn : n ≤ 4294967296) (hi : i ≠ 0) : Bs (nK f n F i) := Bs.rb _ _ _ (by have := znh n F i hi; omega)
open Go.RowKit L
theorem Tryz.infoNode : (Tryz.prog.info? 191).map (fun i => (i.zero, i.size, i.bytes)) = some (some (.agg #[.int .i64 0, .complex .f64 0 0, .complex .f64 0 0]), 3, 40) := by kernel_rfl
theorem z2m : Tryz.prog.underlying 187 = some (.slice 191) := by kernel_rfl
theorem zxy (M : Nat) (hM : M ≤ 4294967296) (W : World) : (Instr.makeSlice 187 (.int .i64 (M : Nat)) (.int .i64 (M : Nat))).run Tryz.prog W = .ok (.slice (some ⟨W.heap.size, 0, none⟩) M M) (W.alloc (.cells (zbi (fun _ => nd0) (3 * M)) 191)) := by
 obtain ⟨i0, hi0, iz0, iz1, iz2⟩ := info_parts Tryz.infoNode
 have h := run_make (P := Tryz.prog) W 187 191 i0 _ z2m hi0 iz0 .i64 .i64 (M : Nat) (M : Nat) (by omega) (Int.le_refl _) (by rw [iz2]; omega) (by omega)
 rw [h, iz1, Int.toNat_natCast, Nat.mul_comm M 3]
 exact congrArg _ (congrArg W.alloc (by rw [← zxx]; rfl))
def zrk (w : World) (a : Addr) : Nat := match w.cell? a with | some (.int _ z) => z.toNat | _ => 0
theorem zte {w : World} {a : Addr} {n : Int} (h : w.cell? a = some (.int .i64 n)) : zrk w a = n.toNat := by unfold zrk; rw [h]
theorem zqf (gx : Nat) (A : Option Addr) (c : Nat) (bs : List Bool) (w : World) (hr : zo w gx A c bs) :
  Calls Tryz.prog 87 #[.pointer (some ⟨gx, 0, none⟩)] w fun e w' => ∃ gl h, e = .returned (.pointer (some ⟨w.heap.size, 0, none⟩)) ∧ zbs w' w.heap.size gl gx A c bs h ∧ Below w.heap.size w w' := by
 have hsm := hr.small
 have HL := hid (fun W hc => zar gx (bs.length : Nat) W hc)
 have hB0 := (Below.refl w.heap.size w).alloc (Nat.le_refl _) (.cells #[.pointer (some ⟨gx, 0, none⟩), .slice none 0 0, .int .i64 1] 189)
 have hN0 := za.new w 189 #[.pointer (some ⟨gx, 0, none⟩), .slice none 0 0, .int .i64 1]
 go_enter Tryz.func87, Tryz.ntmps87
 go_wp2_with fail
 go_loopw [21] (fun tv wr => ∃ h : Nat, za wr w.heap.size 189 #[.pointer (some ⟨gx, 0, none⟩), .slice none 0 0, .int .i64 (2 ^ h : Nat)] ∧ Below w.heap.size w wr ∧ (h = 0 ∨ 256 * 2 ^ h < bs.length)) (fun _ wr => 8589934592 - zrk wr ⟨w.heap.size, 2, none⟩)
 case atStart => exact ⟨0, hN0, hB0, Or.inl rfl⟩
 case round =>
  obtain ⟨h, hN, hB, hh⟩ := hrel
  clear hN0 hB0
  have hcl := (hr.below hB).cells.2
  have hsz := hB.size
  have hFs := zkp hh hsm
  have hF1 := Nat.two_pow_pos h
  obtain ⟨F, hF⟩ : ∃ F, 2 ^ h = F := ⟨_, rfl⟩
  rw [hF] at hN hFs hF1 hh
  have HF := hid hF
  clear hF
  have c2 : wr.cell? ⟨w.heap.size, 2, none⟩ = some (.int .i64 (F : Nat)) := hN.cell 2
  have f2 := hN.frozen 2
  have c1 : wr.cell? ⟨w.heap.size, 1, none⟩ = some (.slice none 0 0) := hN.cell 1
  have f1 := hN.frozen 1
  have hw1 : IntKind.i64.wrap ((F : Int) * 512) = (F : Int) * 512 := by rw [IntKind.wrap_i64]; omega
  rcases Nat.lt_or_ge (512 * F) bs.length with hlt | hge
  ·have g1 : decide ((F : Int) * 512 < (bs.length : Int)) = true := decide_eq_true (by omega)
   have g1N : (F : Int) * 512 < (bs.length : Int) := by omega
   have hw2 : IntKind.i64.wrap ((F : Int) * 2) = ((F * 2 : Nat) : Int) := by rw [IntKind.wrap_i64]; omega
   go_wp2_with fail
   go_quiet ((go_at_call 94; exact zax (HL.out _ (by exact hcl))))
   go_wp2_with fail
   go_roundw
   case rel =>
    refine ⟨h + 1, ?_, (below_drewN hB nq).setCell (Nat.le_refl _) _, Or.inr (by rw [Nat.pow_succ, HF.out]; omega)⟩
    rw [show ((2 ^ (h + 1) : Nat) : Int) = (F : Int) * 2 by rw [Nat.pow_succ, HF.out]; omega]
    exact (hN.drewN nq).put 2 _
   case measure =>
    have q1 := zte c2
    have q2 : zrk ((wr.drewN nq).setCell ⟨w.heap.size, 2, none⟩ (.int .i64 ((F : Int) * 2))) ⟨w.heap.size, 2, none⟩ = F * 2 := by
     rw [zte (n := (F : Int) * 2) (((hN.drewN nq).put 2 _).cell 2)]; omega
    rw [q1, q2]; omega
  ·have g1 : decide ((F : Int) * 512 < (bs.length : Int)) = false := decide_eq_false (by omega)
   have g1N : ¬ ((F : Int) * 512 < (bs.length : Int)) := by omega
   obtain ⟨M, hM⟩ : ∃ M, M = 2 * F := ⟨_, rfl⟩
   have hw2 : IntKind.i64.wrap (2 * (F : Int)) = (M : Int) := by rw [IntKind.wrap_i64]; omega
   have hmk := zxy M (by omega)
   have HME := hid hM
   clear hM
   go_wp2_with fail
   go_quiet ((go_at_call 94; exact zax (HL.out _ (by exact hcl))))
   have hN1 : za (wr.drewN nq) w.heap.size 189 #[.pointer (some ⟨gx, 0, none⟩), .slice none 0 0, .int .i64 (F : Nat)] := hN
   have hB1 : Below w.heap.size w (wr.drewN nq) := below_drewN hB nq
   clear hN hB c2 f2 c1 f1 hcl hsz
   generalize wr.drewN nq = w1 at *
   have hz1 := hB1.size
   have hN2 := hN1.alloc (.cells (zbi (fun _ => nd0) (3 * M)) 191)
   have hB2 := hB1.alloc hz1 (.cells (zbi (fun _ => nd0) (3 * M)) 191)
   have hG2 := za.new w1 191 (zbi (fun _ => nd0) (3 * M))
   have c2 : w1.cell? ⟨w.heap.size, 2, none⟩ = some (.int .i64 (F : Nat)) := hN1.cell 2
   have c1 : (w1.alloc (.cells (zbi (fun _ => nd0) (3 * M)) 191)).cell? ⟨w.heap.size, 1, none⟩ = some (.slice none 0 0) := hN2.cell 1
   have f1 := hN2.frozen 1
   have e2 : ∀ v, ((w1.alloc (.cells (zbi (fun _ => nd0) (3 * M)) 191)).setCell ⟨w.heap.size, 1, none⟩ v).cell? ⟨w.heap.size, 2, none⟩ = some (.int .i64 (F : Nat)) := fun v => (hN2.put 1 v).cell 2
   go_wp2_with fail
   have hN3 := hN2.put 1 (.slice (some ⟨w1.heap.size, 0, none⟩) M M)
   have hne : w1.heap.size ≠ w.heap.size := by have := hN1.lt; omega
   have hG3 := hG2.far (p := ⟨w.heap.size, 1, none⟩) hne (.slice (some ⟨w1.heap.size, 0, none⟩) M M)
   have hB3 := hB2.setCell (p := ⟨w.heap.size, 1, none⟩) (Nat.le_refl _) (.slice (some ⟨w1.heap.size, 0, none⟩) M M)
   have hwg : w.heap.size ≤ w1.heap.size := hz1
   generalize ((w1.alloc (.cells (zbi (fun _ => nd0) (3 * M)) 191)).setCell ⟨w.heap.size, 1, none⟩ (.slice (some ⟨w1.heap.size, 0, none⟩) M M)) = w3 at *
   clear hN1 hB1 hN2 hB2 hG2 c1 c2 f1 e2 hmk hz1
   generalize w1.heap.size = gl at *
   go_loopw [37] (fun kv wr => ∃ k : Nat, k ≤ F ∧ kv = .int .i64 (k : Nat) ∧ za wr w.heap.size 189 #[.pointer (some ⟨gx, 0, none⟩), .slice (some ⟨gl, 0, none⟩) M M, .int .i64 (F : Nat)] ∧
    za wr gl 191 (zbi (ndS (fun j => decide (F ≤ j) && decide (j < F + k)) bs h) (3 * M)) ∧ Below w.heap.size w wr) (fun kv _ => F - (intOf kv).toNat)
   case atStart =>
    refine ⟨0, by omega, rfl, hN3, ?_, hB3⟩
    rw [zha (nd' := fun _ => nd0)]
    ·exact hG3
    ·intro k hk
     unfold ndS
     rw [if_neg]
     simp
   case round =>
    obtain ⟨k, hk, rfl, hN, hG, hB⟩ := hrel
    clear hN3 hG3 hB3
    have hsz := hB.size
    have hrr := hr.below hB
    have c1 : wr.cell? ⟨w.heap.size, 1, none⟩ = some (.slice (some ⟨gl, 0, none⟩) M M) := hN.cell 1
    have c2 : wr.cell? ⟨w.heap.size, 2, none⟩ = some (.int .i64 (F : Nat)) := hN.cell 2
    rcases Nat.lt_or_ge k F with hlt | hge2
    ·have hki : (k : Int) < (F : Int) := by omega
     have hkw := zz1 k (by omega)
     obtain ⟨i, hi⟩ : ∃ i, i = 512 * k := ⟨_, rfl⟩
     have hsc := fun (W : World) (a : Addr) (x y : Nat) (m : Mode) => zdb W a x y m
     obtain ⟨j, hj⟩ : ∃ j, j = F + k := ⟨_, rfl⟩
     have hiw : IntKind.i64.wrap ((k : Int) * 512) = (i : Int) := by rw [IntKind.wrap_i64]; omega
     have hjw : IntKind.i64.wrap ((F : Int) + (k : Int)) = (j : Int) := by rw [IntKind.wrap_i64]; omega
     have hjM : (j : Int) < (M : Int) := by have := HME.out; omega
     have hj0 : (0 : Int) ≤ (j : Int) := by omega
     have hjX : 3 * j + 2 < 3 * M := by have := HME.out; omega
     have HLF := hid (fun W hW => z2l gx A c bs i W hW (by omega))
     have HJ := hid hj
     have HV := hid (show zex bs h j = (eb (zb bs) (min i bs.length) (min (i + 512) bs.length), rf (zb bs) (min i bs.length) (min (i + 512) bs.length), rb (zb bs) (min i bs.length) (min (i + 512) bs.length)) by
      have q := z7u bs.length h j (by rw [HF.out]; omega) (by rw [HF.out]; omega)
      unfold zex nE nF nK
      rw [if_neg (by omega), q.1, q.2, show 512 * (j - 2 ^ h) = i by rw [HF.out]; omega])
     clear hi hj
     unfold ndV at HLF
     generalize eb (zb bs) (min i bs.length) (min (i + 512) bs.length) = E1 at *
     generalize rf (zb bs) (min i bs.length) (min (i + 512) bs.length) = R1 at *
     generalize rb (zb bs) (min i bs.length) (min (i + 512) bs.length) = R2 at *
     go_wp2_with fail
     go_region_law? (first
      | (refine zca (o := ⟨some 53, _, _, _, _, _⟩) rfl 133 #[.pointer (some ⟨gx, 0, none⟩), .int .i64 (i : Nat)] (by go_simp) ?_
         refine (HLF.out _ (by exact hrr)).mono ?_
         rintro e w2 ⟨rfl, hB2⟩
         have c1b : w2.cell? ⟨w.heap.size, 1, none⟩ = some (.slice (some ⟨gl, 0, none⟩) M M) := (hB2.cell (by exact hN.lt)).trans (by exact c1)
         have c2b : w2.cell? ⟨w.heap.size, 2, none⟩ = some (.int .i64 (F : Nat)) := (hB2.cell (by exact hN.lt)).trans (by exact c2)
         have hG2 : za w2 gl 191 (zbi (ndS (fun j => decide (F ≤ j) && decide (j < F + k)) bs h) (3 * M)) := za.below (by exact hG) hB2
         have hN2 : za w2 w.heap.size 189 #[.pointer (some ⟨gx, 0, none⟩), .slice (some ⟨gl, 0, none⟩) M M, .int .i64 (F : Nat)] := za.below (by exact hN) hB2
         have hBw2 : Below w.heap.size w w2 := Below.trans (by first | exact hB | exact hB.drew) (hB2.mono (by exact hsz))
         have n0 := (hG2.cell (j * 3)).trans (za0 _ _ _ (by omega))
         have z0 := hG2.frozen (j * 3)
         have n1 : ∀ v, (w2.setCell ⟨gl, j * 3, none⟩ v).cell? ⟨gl, j * 3 + 1, none⟩ = some (zdp (ndS (fun j => decide (F ≤ j) && decide (j < F + k)) bs h) (j * 3 + 1)) := fun v => ((hG2.put (j * 3) v).cell (j * 3 + 1)).trans (by rw [Array.getElem?_setIfInBounds_ne (by omega)]; exact za0 _ _ _ (by omega))
         have z1 : ∀ v, (w2.setCell ⟨gl, j * 3, none⟩ v).frozen? ⟨gl, j * 3 + 1, none⟩ = false := fun v => (hG2.put (j * 3) v).frozen (j * 3 + 1)
         have n2 : ∀ v u, ((w2.setCell ⟨gl, j * 3, none⟩ v).setCell ⟨gl, j * 3 + 1, none⟩ u).cell? ⟨gl, j * 3 + 2, none⟩ = some (zdp (ndS (fun j => decide (F ≤ j) && decide (j < F + k)) bs h) (j * 3 + 2)) := fun v u => (((hG2.put (j * 3) v).put (j * 3 + 1) u).cell (j * 3 + 2)).trans (by rw [Array.getElem?_setIfInBounds_ne (by omega), Array.getElem?_setIfInBounds_ne (by omega)]; exact za0 _ _ _ (by omega))
         have z2 : ∀ v u, ((w2.setCell ⟨gl, j * 3, none⟩ v).setCell ⟨gl, j * 3 + 1, none⟩ u).frozen? ⟨gl, j * 3 + 2, none⟩ = false := fun v u => ((hG2.put (j * 3) v).put (j * 3 + 1) u).frozen (j * 3 + 2)
         refine ⟨_, rfl, ?_⟩))
     all_goals
      go_wp2_with fail
      go_roundw
      case rel =>
       refine ⟨k + 1, by omega, by go_num, ((hN2.far hne.symm _).far hne.symm _).far hne.symm _, ?_, ((hBw2.setCell hwg _).setCell hwg _).setCell hwg _⟩
       have e := znx (ndS (fun j => decide (F ≤ j) && decide (j < F + k)) bs h) (ndS (fun j => decide (F ≤ j) && decide (j < F + (k + 1))) bs h) (3 * M) j (fun q hq => by
        have hq2 := HJ.out
        unfold ndS
        by_cases hp : F ≤ q ∧ q < F + k
        ·rw [if_pos (by simp; omega), if_pos (by simp; omega)]
        ·rw [if_neg (by simp; omega), if_neg (by simp; omega)])
       have e2 : ndS (fun j => decide (F ≤ j) && decide (j < F + (k + 1))) bs h j = (E1, R1, R2) := by
        have hq2 := HJ.out
        unfold ndS
        rw [if_pos (by simp; omega), HV.out]
       rw [Nat.mul_comm 3 j, e2] at e
       rw [← e]
       exact ((hG2.put (j * 3) _).put (j * 3 + 1) _).put (j * 3 + 2) _
      case measure => simp [intOf]; omega
    ·obtain rfl : k = F := by omega
     have hki : ¬ ((k : Int) < (k : Int)) := by omega
     have hkm : IntKind.i64.wrap ((k : Int) - 1) = ((k - 1 : Nat) : Int) := by rw [IntKind.wrap_i64]; omega
     obtain ⟨q, hq⟩ : ∃ q, q = k - 1 := ⟨_, rfl⟩
     rw [← hq] at hkm
     have hqk : q + 1 = k := by omega
     have HQ := hid hqk
     clear hq hqk
     go_wp2_with fail
     go_loopw [5] (fun iv wr => ∃ i : Nat, i < k ∧ iv = .int .i64 (i : Nat) ∧ za wr w.heap.size 189 #[.pointer (some ⟨gx, 0, none⟩), .slice (some ⟨gl, 0, none⟩) M M, .int .i64 (k : Nat)] ∧
      za wr gl 191 (zbi (ndS (fun j => decide (i < j)) bs h) (3 * M)) ∧ Below w.heap.size w wr) (fun iv _ => (intOf iv).toNat)
     case atStart =>
      refine ⟨q, by have := HQ.out; omega, rfl, hN, ?_, hB⟩
      rw [zha (nd' := ndS (fun j => decide (k ≤ j) && decide (j < k + k)) bs h)]
      ·exact hG
      ·intro a ha
       have h1 := HQ.out
       have h2 := HME.out
       unfold ndS
       by_cases hp : q < a / 3
       ·rw [if_pos (by simp; omega), if_pos (by simp; omega)]
       ·rw [if_neg (by simp; omega), if_neg (by simp; omega)]
     case round =>
      clear hN hG hB c1 c2 hsz hrr
      obtain ⟨i, hi, rfl, hN, hG, hB⟩ := hrel
      have hsz := hB.size
      have c1 : wr.cell? ⟨w.heap.size, 1, none⟩ = some (.slice (some ⟨gl, 0, none⟩) M M) := hN.cell 1
      have hsc := fun (W : World) (a : Addr) (x y : Nat) (m : Mode) => zdb W a x y m
      rcases Nat.eq_zero_or_pos i with h0 | h0
      ·subst h0
       have h00 : ¬ ((0 : Int) < 0) := by omega
       go_wp2_with fail
       go_ret
       refine ⟨rfl, ⟨gl, h, ?_, ?_, hr.below hB, by rw [HF.out]; omega, by rw [HF.out]; exact hh⟩, hB⟩
       ·rw [HF.out, ← HME.out]; exact hN
       ·rw [HF.out, show 6 * k = 3 * M by have := HME.out; omega, zha (nd' := ndS (fun j => decide (0 < j)) bs h)]
        ·exact hG
        ·intro a ha
         unfold ndS
         by_cases hp : 0 < a / 3
         ·rw [if_pos (by simpa using hp)]
         ·rw [if_neg (by simpa using hp)]; unfold zex; rw [if_pos (by omega)]
      ·have hi0 : (0 : Int) < (i : Int) := by omega
       have hi00 : (0 : Int) ≤ (i : Int) := by omega
       have hiM : (i : Int) < (M : Int) := by have := HME.out; omega
       have hiw : IntKind.i64.wrap ((i : Int) - 1) = ((i - 1 : Nat) : Int) := by rw [IntKind.wrap_i64]; omega
       obtain ⟨a, ha⟩ : ∃ a, a = 2 * i := ⟨_, rfl⟩
       obtain ⟨b, hb⟩ : ∃ b, b = a + 1 := ⟨_, rfl⟩
       have haw : IntKind.i64.wrap (2 * (i : Int)) = (a : Int) := by rw [IntKind.wrap_i64]; omega
       have hbw : IntKind.i64.wrap ((a : Int) + 1) = (b : Int) := by rw [IntKind.wrap_i64]; omega
       have haM : (a : Int) < (M : Int) := by have := HME.out; omega
       have hbM : (b : Int) < (M : Int) := by have := HME.out; omega
       have ha0 : (0 : Int) ≤ (a : Int) := by omega
       have hb0 : (0 : Int) ≤ (b : Int) := by omega
       have hjn := z7v (zb bs) bs.length h i h0 (by rw [HF.out]; exact hi)
       rw [show 2 * i + 1 = b by omega, show 2 * i = a by omega] at hjn
       have sE1 := ztb (zb bs) bs.length (2 ^ h) a hsm (by omega)
       have sE2 := ztb (zb bs) bs.length (2 ^ h) b hsm (by omega)
       have hJO := hid (fun W => z2k (nE (zb bs) bs.length (2 ^ h) a) (nE (zb bs) bs.length (2 ^ h) b) (nF (zb bs) bs.length (2 ^ h) a) (nK (zb bs) bs.length (2 ^ h) a) (nF (zb bs) bs.length (2 ^ h) b) (nK (zb bs) bs.length (2 ^ h) b) W sE1 sE2 (ztc _ _ _ _ hsm (by omega)) (ztd _ _ _ _ hsm (by omega)) (ztc _ _ _ _ hsm (by omega)) (ztd _ _ _ _ hsm (by omega)))
       have hVi : zex bs h i = (nE (zb bs) bs.length (2 ^ h) a + nE (zb bs) bs.length (2 ^ h) b, bo (nF (zb bs) bs.length (2 ^ h) a) (mv (nF (zb bs) bs.length (2 ^ h) b) (nE (zb bs) bs.length (2 ^ h) a)), bo (nK (zb bs) bs.length (2 ^ h) a) (mv (nK (zb bs) bs.length (2 ^ h) b) (nE (zb bs) bs.length (2 ^ h) a))) := by
        unfold zex; rw [if_neg (by omega), hjn.1, hjn.2.1, hjn.2.2]
       have hVa : ndS (fun j => decide (i < j)) bs h a = (nE (zb bs) bs.length (2 ^ h) a, nF (zb bs) bs.length (2 ^ h) a, nK (zb bs) bs.length (2 ^ h) a) := by
        unfold ndS zex; rw [if_pos (by simp; omega), if_neg (by omega)]
       have hVb : ndS (fun j => decide (i < j)) bs h b = (nE (zb bs) bs.length (2 ^ h) b, nF (zb bs) bs.length (2 ^ h) b, nK (zb bs) bs.length (2 ^ h) b) := by
        unfold ndS zex; rw [if_pos (by simp; omega), if_neg (by omega)]
       have HVI := hid hVi
       clear hjn hVi
       unfold ndV at hJO
       generalize nE (zb bs) bs.length (2 ^ h) a + nE (zb bs) bs.length (2 ^ h) b = E3 at *
       generalize bo (nF (zb bs) bs.length (2 ^ h) a) (mv (nF (zb bs) bs.length (2 ^ h) b) (nE (zb bs) bs.length (2 ^ h) a)) = R3 at *
       generalize bo (nK (zb bs) bs.length (2 ^ h) a) (mv (nK (zb bs) bs.length (2 ^ h) b) (nE (zb bs) bs.length (2 ^ h) a)) = S3 at *
       generalize nE (zb bs) bs.length (2 ^ h) a = E1 at *
       generalize nE (zb bs) bs.length (2 ^ h) b = E2 at *
       generalize nF (zb bs) bs.length (2 ^ h) a = R1 at *
       generalize nF (zb bs) bs.length (2 ^ h) b = R2 at *
       generalize nK (zb bs) bs.length (2 ^ h) a = S1 at *
       generalize nK (zb bs) bs.length (2 ^ h) b = S2 at *
       have a0 : wr.cell? ⟨gl, a * 3, none⟩ = some (.int .i64 E1) := (hG.cell _).trans ((za0 _ _ _ (by omega)).trans (by rw [Nat.mul_comm, znv, hVa]))
       have a1 : wr.cell? ⟨gl, a * 3 + 1, none⟩ = some (.complex .f64 (lxf R1) (uxf R1)) := (hG.cell _).trans ((za0 _ _ _ (by omega)).trans (by rw [Nat.mul_comm, znw, hVa]))
       have a2 : wr.cell? ⟨gl, a * 3 + 2, none⟩ = some (.complex .f64 (lxf S1) (uxf S1)) := (hG.cell _).trans ((za0 _ _ _ (by omega)).trans (by rw [Nat.mul_comm, zta, hVa]))
       have b0 : wr.cell? ⟨gl, b * 3, none⟩ = some (.int .i64 E2) := (hG.cell _).trans ((za0 _ _ _ (by omega)).trans (by rw [Nat.mul_comm, znv, hVb]))
       have b1 : wr.cell? ⟨gl, b * 3 + 1, none⟩ = some (.complex .f64 (lxf R2) (uxf R2)) := (hG.cell _).trans ((za0 _ _ _ (by omega)).trans (by rw [Nat.mul_comm, znw, hVb]))
       have b2 : wr.cell? ⟨gl, b * 3 + 2, none⟩ = some (.complex .f64 (lxf S2) (uxf S2)) := (hG.cell _).trans ((za0 _ _ _ (by omega)).trans (by rw [Nat.mul_comm, zta, hVb]))
       clear hVa hVb ha hb sE1 sE2
       go_wp2_with fail
       go_region_law (first
        | (refine zca (o := ⟨some 87, _, _, _, _, _⟩) rfl 134 #[.agg #[.int .i64 E1, .complex .f64 (lxf R1) (uxf R1), .complex .f64 (lxf S1) (uxf S1)], .agg #[.int .i64 E2, .complex .f64 (lxf R2) (uxf R2), .complex .f64 (lxf S2) (uxf S2)]] (by go_simp) ?_
           refine (hJO.out _).mono ?_
           rintro e w2 ⟨rfl, hB2⟩
           have c1b : w2.cell? ⟨w.heap.size, 1, none⟩ = some (.slice (some ⟨gl, 0, none⟩) M M) := (hB2.cell (by exact hN.lt)).trans (by exact c1)
           have hG2 : za w2 gl 191 (zbi (ndS (fun j => decide (i < j)) bs h) (3 * M)) := za.below (by exact hG) hB2
           have hN2 : za w2 w.heap.size 189 #[.pointer (some ⟨gx, 0, none⟩), .slice (some ⟨gl, 0, none⟩) M M, .int .i64 (k : Nat)] := za.below (by exact hN) hB2
           have hBw2 : Below w.heap.size w w2 := Below.trans (by first | exact hB | exact hB.drew) (hB2.mono (by exact hsz))
           have n0 := (hG2.cell (i * 3)).trans (za0 _ _ _ (by omega))
           have z0 := hG2.frozen (i * 3)
           have n1 : ∀ v, (w2.setCell ⟨gl, i * 3, none⟩ v).cell? ⟨gl, i * 3 + 1, none⟩ = some (zdp (ndS (fun j => decide (i < j)) bs h) (i * 3 + 1)) := fun v => ((hG2.put (i * 3) v).cell (i * 3 + 1)).trans (by rw [Array.getElem?_setIfInBounds_ne (by omega)]; exact za0 _ _ _ (by omega))
           have z1 : ∀ v, (w2.setCell ⟨gl, i * 3, none⟩ v).frozen? ⟨gl, i * 3 + 1, none⟩ = false := fun v => (hG2.put (i * 3) v).frozen (i * 3 + 1)
           have n2 : ∀ v u, ((w2.setCell ⟨gl, i * 3, none⟩ v).setCell ⟨gl, i * 3 + 1, none⟩ u).cell? ⟨gl, i * 3 + 2, none⟩ = some (zdp (ndS (fun j => decide (i < j)) bs h) (i * 3 + 2)) := fun v u => (((hG2.put (i * 3) v).put (i * 3 + 1) u).cell (i * 3 + 2)).trans (by rw [Array.getElem?_setIfInBounds_ne (by omega), Array.getElem?_setIfInBounds_ne (by omega)]; exact za0 _ _ _ (by omega))
           have z2 : ∀ v u, ((w2.setCell ⟨gl, i * 3, none⟩ v).setCell ⟨gl, i * 3 + 1, none⟩ u).frozen? ⟨gl, i * 3 + 2, none⟩ = false := fun v u => ((hG2.put (i * 3) v).put (i * 3 + 1) u).frozen (i * 3 + 2)
           refine ⟨_, rfl, ?_⟩))
       all_goals
        go_wp2_with fail
        go_roundw
        case rel =>
         refine ⟨i - 1, by omega, rfl, ((hN2.far hne.symm _).far hne.symm _).far hne.symm _, ?_, ((hBw2.setCell hwg _).setCell hwg _).setCell hwg _⟩
         have e := znx (ndS (fun j => decide (i < j)) bs h) (ndS (fun j => decide (i - 1 < j)) bs h) (3 * M) i (fun q hq => by
          unfold ndS
          by_cases hp : i < q
          ·rw [if_pos (by simp; omega), if_pos (by simp; omega)]
          ·rw [if_neg (by simp; omega), if_neg (by simp; omega)])
         have e2 : ndS (fun j => decide (i - 1 < j)) bs h i = (E3, R3, S3) := by
          unfold ndS
          rw [if_pos (by simp; omega), HVI.out]
         rw [Nat.mul_comm 3 i, e2] at e
         rw [← e]
         exact ((hG2.put (i * 3) _).put (i * 3 + 1) _).put (i * 3 + 2) _
        case measure => simp [intOf]; omega
end Go.Proofs.YtgpbpgpolpakjaaGreatDoor
