/- Walks: a row's tree is made (minmax.New). -/
import Derived.Test.YtacllonekidocaaGreatDoorMinmaxB
import Derived.Test.YtacllonekidocaaGreatDoorMinmaxC
import Derived.Deep.RegionLaw
set_option linter.unusedVariables false
set_option linter.unusedSimpArgs false
set_option maxRecDepth 100000
namespace Go.Proofs.YtacllonekidocaaGreatDoor
open Go.RowKit L

theorem Tryz.infoNode : (Tryz.prog.info? 142).map (fun i => (i.zero, i.size, i.bytes)) = some (some (.agg #[.int .i64 0, .complex .f64 0 0, .complex .f64 0 0]), 3, 40) := by kernel_rfl
theorem undNodes : Tryz.prog.underlying 138 = some (.slice 142) := by kernel_rfl
theorem make_nodes (M : Nat) (hM : M ≤ 4294967296) (W : World) : (Instr.makeSlice 138 (.int .i64 (M : Nat)) (.int .i64 (M : Nat))).run Tryz.prog W = .ok (.slice (some ⟨W.heap.size, 0, none⟩) M M) (W.alloc (.cells (ncells (fun _ => nd0) (3 * M)) 142)) := by
  obtain ⟨i0, hi0, iz0, iz1, iz2⟩ := info_parts Tryz.infoNode
  have h := run_make (P := Tryz.prog) W 138 142 i0 _ undNodes hi0 iz0 .i64 .i64 (M : Nat) (M : Nat) (by omega) (Int.le_refl _) (by rw [iz2]; omega) (by omega)
  rw [h, iz1, Int.toNat_natCast, Nat.mul_comm M 3]
  exact congrArg _ (congrArg W.alloc (by rw [← made_nodes]; rfl))
def cellN (w : World) (a : Addr) : Nat := match w.cell? a with | some (.int _ z) => z.toNat | _ => 0

theorem cellN_of {w : World} {a : Addr} {n : Int} (h : w.cell? a = some (.int .i64 n)) : cellN w a = n.toNat := by unfold cellN; rw [h]

set_option maxHeartbeats 2000000 in
theorem mmNew_any (gx : Nat) (A : Option Addr) (c : Nat) (bs : List Bool) (w : World) (hr : RowAt w gx A c bs) :
    Calls Tryz.prog 65 #[.pointer (some ⟨gx, 0, none⟩)] w fun e w' => ∃ gl h, e = .returned (.pointer (some ⟨w.heap.size, 0, none⟩)) ∧ TreeAt w' w.heap.size gl gx A c bs h ∧ Below w.heap.size w w' := by
  have hsm := hr.small
  have HL := hid (fun W hc => rlen_any gx (bs.length : Nat) W hc)
  have hB0 := (Below.refl w.heap.size w).alloc (Nat.le_refl _) (.cells #[.pointer (some ⟨gx, 0, none⟩), .slice none 0 0, .int .i64 1] 140)
  have hN0 := BlkIs.new w 140 #[.pointer (some ⟨gx, 0, none⟩), .slice none 0 0, .int .i64 1]
  go_enter Tryz.func65, Tryz.ntmps65
  go_wp2_with fail
  go_loopw [21] (fun tv wr => ∃ h : Nat, BlkIs wr w.heap.size 140 #[.pointer (some ⟨gx, 0, none⟩), .slice none 0 0, .int .i64 (2 ^ h : Nat)] ∧ Below w.heap.size w wr ∧ (h = 0 ∨ 256 * 2 ^ h < bs.length)) (fun _ wr => 8589934592 - cellN wr ⟨w.heap.size, 2, none⟩)
  case atStart => exact ⟨0, hN0, hB0, Or.inl rfl⟩
  case round =>
    obtain ⟨h, hN, hB, hh⟩ := hrel
    clear hN0 hB0
    have hcl := (hr.below hB).cells.2
    have hsz := hB.size
    have hFs := pow_small hh hsm
    have hF1 := Nat.two_pow_pos h
    obtain ⟨F, hF⟩ : ∃ F, 2 ^ h = F := ⟨_, rfl⟩
    rw [hF] at hN hFs hF1 hh
    have HF := hid hF
    clear hF
    have c2 : wr.cell? ⟨w.heap.size, 2, none⟩ = some (.int .i64 (F : Nat)) := hN.cell 2
    have f2 := hN.frozen 2
    have c1 : wr.cell? ⟨w.heap.size, 1, none⟩ = some (.slice none 0 0) := hN.cell 1
    have f1 := hN.frozen 1
    have hw1 : IntKind.i64.wrap ((F : Int) * 512) = (F : Int) * 512 := by rw [IntKind.wrap_i64]; omega
    rcases Nat.lt_or_ge (512 * F) bs.length with hlt | hge
    · have g1 : decide ((F : Int) * 512 < (bs.length : Int)) = true := decide_eq_true (by omega)
      have g1N : (F : Int) * 512 < (bs.length : Int) := by omega
      have hw2 : IntKind.i64.wrap ((F : Int) * 2) = ((F * 2 : Nat) : Int) := by rw [IntKind.wrap_i64]; omega
      go_wp2_with fail
      go_quiet ((go_at_call 72; exact quiet_left (HL.out _ (by exact hcl))))
      go_wp2_with fail
      go_roundw
      case rel =>
        refine ⟨h + 1, ?_, (below_drewN hB nq).setCell (Nat.le_refl _) _, Or.inr (by rw [Nat.pow_succ, HF.out]; omega)⟩
        rw [show ((2 ^ (h + 1) : Nat) : Int) = (F : Int) * 2 by rw [Nat.pow_succ, HF.out]; omega]
        exact (hN.drewN nq).put 2 _
      case measure =>
        have q1 := cellN_of c2
        have q2 : cellN ((wr.drewN nq).setCell ⟨w.heap.size, 2, none⟩ (.int .i64 ((F : Int) * 2))) ⟨w.heap.size, 2, none⟩ = F * 2 := by
          rw [cellN_of (n := (F : Int) * 2) (((hN.drewN nq).put 2 _).cell 2)]; omega
        rw [q1, q2]; omega
    · have g1 : decide ((F : Int) * 512 < (bs.length : Int)) = false := decide_eq_false (by omega)
      have g1N : ¬ ((F : Int) * 512 < (bs.length : Int)) := by omega
      obtain ⟨M, hM⟩ : ∃ M, M = 2 * F := ⟨_, rfl⟩
      have hw2 : IntKind.i64.wrap (2 * (F : Int)) = (M : Int) := by rw [IntKind.wrap_i64]; omega
      have hmk := make_nodes M (by omega)
      have HME := hid hM
      clear hM
      go_wp2_with fail
      go_quiet ((go_at_call 72; exact quiet_left (HL.out _ (by exact hcl))))
      have hN1 : BlkIs (wr.drewN nq) w.heap.size 140 #[.pointer (some ⟨gx, 0, none⟩), .slice none 0 0, .int .i64 (F : Nat)] := hN
      have hB1 : Below w.heap.size w (wr.drewN nq) := below_drewN hB nq
      clear hN hB c2 f2 c1 f1 hcl hsz
      generalize wr.drewN nq = w1 at *
      have hz1 := hB1.size
      have hN2 := hN1.alloc (.cells (ncells (fun _ => nd0) (3 * M)) 142)
      have hB2 := hB1.alloc hz1 (.cells (ncells (fun _ => nd0) (3 * M)) 142)
      have hG2 := BlkIs.new w1 142 (ncells (fun _ => nd0) (3 * M))
      have c2 : w1.cell? ⟨w.heap.size, 2, none⟩ = some (.int .i64 (F : Nat)) := hN1.cell 2
      have c1 : (w1.alloc (.cells (ncells (fun _ => nd0) (3 * M)) 142)).cell? ⟨w.heap.size, 1, none⟩ = some (.slice none 0 0) := hN2.cell 1
      have f1 := hN2.frozen 1
      have e2 : ∀ v, ((w1.alloc (.cells (ncells (fun _ => nd0) (3 * M)) 142)).setCell ⟨w.heap.size, 1, none⟩ v).cell? ⟨w.heap.size, 2, none⟩ = some (.int .i64 (F : Nat)) := fun v => (hN2.put 1 v).cell 2
      go_wp2_with fail
      have hN3 := hN2.put 1 (.slice (some ⟨w1.heap.size, 0, none⟩) M M)
      have hne : w1.heap.size ≠ w.heap.size := by have := hN1.lt; omega
      have hG3 := hG2.far (p := ⟨w.heap.size, 1, none⟩) hne (.slice (some ⟨w1.heap.size, 0, none⟩) M M)
      have hB3 := hB2.setCell (p := ⟨w.heap.size, 1, none⟩) (Nat.le_refl _) (.slice (some ⟨w1.heap.size, 0, none⟩) M M)
      have hwg : w.heap.size ≤ w1.heap.size := hz1
      generalize ((w1.alloc (.cells (ncells (fun _ => nd0) (3 * M)) 142)).setCell ⟨w.heap.size, 1, none⟩ (.slice (some ⟨w1.heap.size, 0, none⟩) M M)) = w3 at *
      clear hN1 hB1 hN2 hB2 hG2 c1 c2 f1 e2 hmk hz1
      generalize w1.heap.size = gl at *
      go_loopw [37] (fun kv wr => ∃ k : Nat, k ≤ F ∧ kv = .int .i64 (k : Nat) ∧ BlkIs wr w.heap.size 140 #[.pointer (some ⟨gx, 0, none⟩), .slice (some ⟨gl, 0, none⟩) M M, .int .i64 (F : Nat)] ∧
        BlkIs wr gl 142 (ncells (ndS (fun j => decide (F ≤ j) && decide (j < F + k)) bs h) (3 * M)) ∧ Below w.heap.size w wr) (fun kv _ => F - (intOf kv).toNat)
      case atStart =>
        refine ⟨0, by omega, rfl, hN3, ?_, hB3⟩
        rw [ncells_congr (nd' := fun _ => nd0)]
        · exact hG3
        · intro k hk
          unfold ndS
          rw [if_neg]
          simp
      case round =>
        obtain ⟨k, hk, rfl, hN, hG, hB⟩ := hrel
        clear hN3 hG3 hB3
        have hsz := hB.size
        have hrr := hr.below hB
        have c1 : wr.cell? ⟨w.heap.size, 1, none⟩ = some (.slice (some ⟨gl, 0, none⟩) M M) := hN.cell 1
        have c2 : wr.cell? ⟨w.heap.size, 2, none⟩ = some (.int .i64 (F : Nat)) := hN.cell 2
        rcases Nat.lt_or_ge k F with hlt | hge2
        · have hki : (k : Int) < (F : Int) := by omega
          have hkw := wrapi_one k (by omega)
          obtain ⟨i, hi⟩ : ∃ i, i = 512 * k := ⟨_, rfl⟩
          have hsc := fun (W : World) (a : Addr) (x y : Nat) (m : Mode) => run_store_complex W a x y m
          obtain ⟨j, hj⟩ : ∃ j, j = F + k := ⟨_, rfl⟩
          have hiw : IntKind.i64.wrap ((k : Int) * 512) = (i : Int) := by rw [IntKind.wrap_i64]; omega
          have hjw : IntKind.i64.wrap ((F : Int) + (k : Int)) = (j : Int) := by rw [IntKind.wrap_i64]; omega
          have hjM : (j : Int) < (M : Int) := by have := HME.out; omega
          have hj0 : (0 : Int) ≤ (j : Int) := by omega
          have hjX : 3 * j + 2 < 3 * M := by have := HME.out; omega
          have HLF := hid (fun W hW => leaf_any gx A c bs i W hW (by omega))
          have HJ := hid hj
          have HV := hid (show nodeV bs h j = (eb (bitAt bs) (min i bs.length) (min (i + 512) bs.length), rf (bitAt bs) (min i bs.length) (min (i + 512) bs.length), rb (bitAt bs) (min i bs.length) (min (i + 512) bs.length)) by
            have q := n_leaf bs.length h j (by rw [HF.out]; omega) (by rw [HF.out]; omega)
            unfold nodeV nE nF nK
            rw [if_neg (by omega), q.1, q.2, show 512 * (j - 2 ^ h) = i by rw [HF.out]; omega])
          clear hi hj
          unfold ndV at HLF
          generalize eb (bitAt bs) (min i bs.length) (min (i + 512) bs.length) = E1 at *
          generalize rf (bitAt bs) (min i bs.length) (min (i + 512) bs.length) = R1 at *
          generalize rb (bitAt bs) (min i bs.length) (min (i + 512) bs.length) = R2 at *
          go_wp2_with fail
          go_region_law? (first
            | (refine step_call (o := ⟨some 53, _, _, _, _, _⟩) rfl 98 #[.pointer (some ⟨gx, 0, none⟩), .int .i64 (i : Nat)] (by go_simp) ?_
               refine (HLF.out _ (by exact hrr)).mono ?_
               rintro e w2 ⟨rfl, hB2⟩
               have c1b : w2.cell? ⟨w.heap.size, 1, none⟩ = some (.slice (some ⟨gl, 0, none⟩) M M) := (hB2.cell (by exact hN.lt)).trans (by exact c1)
               have c2b : w2.cell? ⟨w.heap.size, 2, none⟩ = some (.int .i64 (F : Nat)) := (hB2.cell (by exact hN.lt)).trans (by exact c2)
               have hG2 : BlkIs w2 gl 142 (ncells (ndS (fun j => decide (F ≤ j) && decide (j < F + k)) bs h) (3 * M)) := BlkIs.below (by exact hG) hB2
               have hN2 : BlkIs w2 w.heap.size 140 #[.pointer (some ⟨gx, 0, none⟩), .slice (some ⟨gl, 0, none⟩) M M, .int .i64 (F : Nat)] := BlkIs.below (by exact hN) hB2
               have hBw2 : Below w.heap.size w w2 := Below.trans (by first | exact hB | exact hB.drew) (hB2.mono (by exact hsz))
               have n0 := (hG2.cell (j * 3)).trans (ncells_get _ _ _ (by omega))
               have z0 := hG2.frozen (j * 3)
               have n1 : ∀ v, (w2.setCell ⟨gl, j * 3, none⟩ v).cell? ⟨gl, j * 3 + 1, none⟩ = some (ncell (ndS (fun j => decide (F ≤ j) && decide (j < F + k)) bs h) (j * 3 + 1)) := fun v => ((hG2.put (j * 3) v).cell (j * 3 + 1)).trans (by rw [Array.getElem?_setIfInBounds_ne (by omega)]; exact ncells_get _ _ _ (by omega))
               have z1 : ∀ v, (w2.setCell ⟨gl, j * 3, none⟩ v).frozen? ⟨gl, j * 3 + 1, none⟩ = false := fun v => (hG2.put (j * 3) v).frozen (j * 3 + 1)
               have n2 : ∀ v u, ((w2.setCell ⟨gl, j * 3, none⟩ v).setCell ⟨gl, j * 3 + 1, none⟩ u).cell? ⟨gl, j * 3 + 2, none⟩ = some (ncell (ndS (fun j => decide (F ≤ j) && decide (j < F + k)) bs h) (j * 3 + 2)) := fun v u => (((hG2.put (j * 3) v).put (j * 3 + 1) u).cell (j * 3 + 2)).trans (by rw [Array.getElem?_setIfInBounds_ne (by omega), Array.getElem?_setIfInBounds_ne (by omega)]; exact ncells_get _ _ _ (by omega))
               have z2 : ∀ v u, ((w2.setCell ⟨gl, j * 3, none⟩ v).setCell ⟨gl, j * 3 + 1, none⟩ u).frozen? ⟨gl, j * 3 + 2, none⟩ = false := fun v u => ((hG2.put (j * 3) v).put (j * 3 + 1) u).frozen (j * 3 + 2)
               refine ⟨_, rfl, ?_⟩))
          all_goals
            go_wp2_with fail
            go_roundw
            case rel =>
              refine ⟨k + 1, by omega, by go_num, ((hN2.far hne.symm _).far hne.symm _).far hne.symm _, ?_, ((hBw2.setCell hwg _).setCell hwg _).setCell hwg _⟩
              have e := ncells_set (ndS (fun j => decide (F ≤ j) && decide (j < F + k)) bs h) (ndS (fun j => decide (F ≤ j) && decide (j < F + (k + 1))) bs h) (3 * M) j (fun q hq => by
                have hq2 := HJ.out
                unfold ndS
                by_cases hp : F ≤ q ∧ q < F + k
                · rw [if_pos (by simp; omega), if_pos (by simp; omega)]
                · rw [if_neg (by simp; omega), if_neg (by simp; omega)])
              have e2 : ndS (fun j => decide (F ≤ j) && decide (j < F + (k + 1))) bs h j = (E1, R1, R2) := by
                have hq2 := HJ.out
                unfold ndS
                rw [if_pos (by simp; omega), HV.out]
              rw [Nat.mul_comm 3 j, e2] at e
              rw [← e]
              exact ((hG2.put (j * 3) _).put (j * 3 + 1) _).put (j * 3 + 2) _
            case measure => simp [intOf]; omega
        · obtain rfl : k = F := by omega
          have hki : ¬ ((k : Int) < (k : Int)) := by omega
          have hkm : IntKind.i64.wrap ((k : Int) - 1) = ((k - 1 : Nat) : Int) := by rw [IntKind.wrap_i64]; omega
          obtain ⟨q, hq⟩ : ∃ q, q = k - 1 := ⟨_, rfl⟩
          rw [← hq] at hkm
          have hqk : q + 1 = k := by omega
          have HQ := hid hqk
          clear hq hqk
          go_wp2_with fail
          go_loopw [5] (fun iv wr => ∃ i : Nat, i < k ∧ iv = .int .i64 (i : Nat) ∧ BlkIs wr w.heap.size 140 #[.pointer (some ⟨gx, 0, none⟩), .slice (some ⟨gl, 0, none⟩) M M, .int .i64 (k : Nat)] ∧
            BlkIs wr gl 142 (ncells (ndS (fun j => decide (i < j)) bs h) (3 * M)) ∧ Below w.heap.size w wr) (fun iv _ => (intOf iv).toNat)
          case atStart =>
            refine ⟨q, by have := HQ.out; omega, rfl, hN, ?_, hB⟩
            rw [ncells_congr (nd' := ndS (fun j => decide (k ≤ j) && decide (j < k + k)) bs h)]
            · exact hG
            · intro a ha
              have h1 := HQ.out
              have h2 := HME.out
              unfold ndS
              by_cases hp : q < a / 3
              · rw [if_pos (by simp; omega), if_pos (by simp; omega)]
              · rw [if_neg (by simp; omega), if_neg (by simp; omega)]
          case round =>
            clear hN hG hB c1 c2 hsz hrr
            obtain ⟨i, hi, rfl, hN, hG, hB⟩ := hrel
            have hsz := hB.size
            have c1 : wr.cell? ⟨w.heap.size, 1, none⟩ = some (.slice (some ⟨gl, 0, none⟩) M M) := hN.cell 1
            have hsc := fun (W : World) (a : Addr) (x y : Nat) (m : Mode) => run_store_complex W a x y m
            rcases Nat.eq_zero_or_pos i with h0 | h0
            · subst h0
              have h00 : ¬ ((0 : Int) < 0) := by omega
              go_wp2_with fail
              go_ret
              refine ⟨rfl, ⟨gl, h, ?_, ?_, hr.below hB, by rw [HF.out]; omega, by rw [HF.out]; exact hh⟩, hB⟩
              · rw [HF.out, ← HME.out]; exact hN
              · rw [HF.out, show 6 * k = 3 * M by have := HME.out; omega, ncells_congr (nd' := ndS (fun j => decide (0 < j)) bs h)]
                · exact hG
                · intro a ha
                  unfold ndS
                  by_cases hp : 0 < a / 3
                  · rw [if_pos (by simpa using hp)]
                  · rw [if_neg (by simpa using hp)]; unfold nodeV; rw [if_pos (by omega)]
            · have hi0 : (0 : Int) < (i : Int) := by omega
              have hi00 : (0 : Int) ≤ (i : Int) := by omega
              have hiM : (i : Int) < (M : Int) := by have := HME.out; omega
              have hiw : IntKind.i64.wrap ((i : Int) - 1) = ((i - 1 : Nat) : Int) := by rw [IntKind.wrap_i64]; omega
              obtain ⟨a, ha⟩ : ∃ a, a = 2 * i := ⟨_, rfl⟩
              obtain ⟨b, hb⟩ : ∃ b, b = a + 1 := ⟨_, rfl⟩
              have haw : IntKind.i64.wrap (2 * (i : Int)) = (a : Int) := by rw [IntKind.wrap_i64]; omega
              have hbw : IntKind.i64.wrap ((a : Int) + 1) = (b : Int) := by rw [IntKind.wrap_i64]; omega
              have haM : (a : Int) < (M : Int) := by have := HME.out; omega
              have hbM : (b : Int) < (M : Int) := by have := HME.out; omega
              have ha0 : (0 : Int) ≤ (a : Int) := by omega
              have hb0 : (0 : Int) ≤ (b : Int) := by omega
              have hjn := n_join (bitAt bs) bs.length h i h0 (by rw [HF.out]; exact hi)
              rw [show 2 * i + 1 = b by omega, show 2 * i = a by omega] at hjn
              have sE1 := nE_small (bitAt bs) bs.length (2 ^ h) a hsm (by omega)
              have sE2 := nE_small (bitAt bs) bs.length (2 ^ h) b hsm (by omega)
              have hJO := hid (fun W => join_any (nE (bitAt bs) bs.length (2 ^ h) a) (nE (bitAt bs) bs.length (2 ^ h) b) (nF (bitAt bs) bs.length (2 ^ h) a) (nK (bitAt bs) bs.length (2 ^ h) a) (nF (bitAt bs) bs.length (2 ^ h) b) (nK (bitAt bs) bs.length (2 ^ h) b) W sE1 sE2 (nF_small _ _ _ _ hsm (by omega)) (nK_small _ _ _ _ hsm (by omega)) (nF_small _ _ _ _ hsm (by omega)) (nK_small _ _ _ _ hsm (by omega)))
              have hVi : nodeV bs h i = (nE (bitAt bs) bs.length (2 ^ h) a + nE (bitAt bs) bs.length (2 ^ h) b, bo (nF (bitAt bs) bs.length (2 ^ h) a) (mv (nF (bitAt bs) bs.length (2 ^ h) b) (nE (bitAt bs) bs.length (2 ^ h) a)), bo (nK (bitAt bs) bs.length (2 ^ h) a) (mv (nK (bitAt bs) bs.length (2 ^ h) b) (nE (bitAt bs) bs.length (2 ^ h) a))) := by
                unfold nodeV; rw [if_neg (by omega), hjn.1, hjn.2.1, hjn.2.2]
              have hVa : ndS (fun j => decide (i < j)) bs h a = (nE (bitAt bs) bs.length (2 ^ h) a, nF (bitAt bs) bs.length (2 ^ h) a, nK (bitAt bs) bs.length (2 ^ h) a) := by
                unfold ndS nodeV; rw [if_pos (by simp; omega), if_neg (by omega)]
              have hVb : ndS (fun j => decide (i < j)) bs h b = (nE (bitAt bs) bs.length (2 ^ h) b, nF (bitAt bs) bs.length (2 ^ h) b, nK (bitAt bs) bs.length (2 ^ h) b) := by
                unfold ndS nodeV; rw [if_pos (by simp; omega), if_neg (by omega)]
              have HVI := hid hVi
              clear hjn hVi
              unfold ndV at hJO
              generalize nE (bitAt bs) bs.length (2 ^ h) a + nE (bitAt bs) bs.length (2 ^ h) b = E3 at *
              generalize bo (nF (bitAt bs) bs.length (2 ^ h) a) (mv (nF (bitAt bs) bs.length (2 ^ h) b) (nE (bitAt bs) bs.length (2 ^ h) a)) = R3 at *
              generalize bo (nK (bitAt bs) bs.length (2 ^ h) a) (mv (nK (bitAt bs) bs.length (2 ^ h) b) (nE (bitAt bs) bs.length (2 ^ h) a)) = S3 at *
              generalize nE (bitAt bs) bs.length (2 ^ h) a = E1 at *
              generalize nE (bitAt bs) bs.length (2 ^ h) b = E2 at *
              generalize nF (bitAt bs) bs.length (2 ^ h) a = R1 at *
              generalize nF (bitAt bs) bs.length (2 ^ h) b = R2 at *
              generalize nK (bitAt bs) bs.length (2 ^ h) a = S1 at *
              generalize nK (bitAt bs) bs.length (2 ^ h) b = S2 at *
              have a0 : wr.cell? ⟨gl, a * 3, none⟩ = some (.int .i64 E1) := (hG.cell _).trans ((ncells_get _ _ _ (by omega)).trans (by rw [Nat.mul_comm, ncell0, hVa]))
              have a1 : wr.cell? ⟨gl, a * 3 + 1, none⟩ = some (.complex .f64 (lxf R1) (uxf R1)) := (hG.cell _).trans ((ncells_get _ _ _ (by omega)).trans (by rw [Nat.mul_comm, ncell1, hVa]))
              have a2 : wr.cell? ⟨gl, a * 3 + 2, none⟩ = some (.complex .f64 (lxf S1) (uxf S1)) := (hG.cell _).trans ((ncells_get _ _ _ (by omega)).trans (by rw [Nat.mul_comm, ncell2, hVa]))
              have b0 : wr.cell? ⟨gl, b * 3, none⟩ = some (.int .i64 E2) := (hG.cell _).trans ((ncells_get _ _ _ (by omega)).trans (by rw [Nat.mul_comm, ncell0, hVb]))
              have b1 : wr.cell? ⟨gl, b * 3 + 1, none⟩ = some (.complex .f64 (lxf R2) (uxf R2)) := (hG.cell _).trans ((ncells_get _ _ _ (by omega)).trans (by rw [Nat.mul_comm, ncell1, hVb]))
              have b2 : wr.cell? ⟨gl, b * 3 + 2, none⟩ = some (.complex .f64 (lxf S2) (uxf S2)) := (hG.cell _).trans ((ncells_get _ _ _ (by omega)).trans (by rw [Nat.mul_comm, ncell2, hVb]))
              clear hVa hVb ha hb sE1 sE2
              go_wp2_with fail
              go_region_law (first
                | (refine step_call (o := ⟨some 87, _, _, _, _, _⟩) rfl 99 #[.agg #[.int .i64 E1, .complex .f64 (lxf R1) (uxf R1), .complex .f64 (lxf S1) (uxf S1)], .agg #[.int .i64 E2, .complex .f64 (lxf R2) (uxf R2), .complex .f64 (lxf S2) (uxf S2)]] (by go_simp) ?_
                   refine (hJO.out _).mono ?_
                   rintro e w2 ⟨rfl, hB2⟩
                   have c1b : w2.cell? ⟨w.heap.size, 1, none⟩ = some (.slice (some ⟨gl, 0, none⟩) M M) := (hB2.cell (by exact hN.lt)).trans (by exact c1)
                   have hG2 : BlkIs w2 gl 142 (ncells (ndS (fun j => decide (i < j)) bs h) (3 * M)) := BlkIs.below (by exact hG) hB2
                   have hN2 : BlkIs w2 w.heap.size 140 #[.pointer (some ⟨gx, 0, none⟩), .slice (some ⟨gl, 0, none⟩) M M, .int .i64 (k : Nat)] := BlkIs.below (by exact hN) hB2
                   have hBw2 : Below w.heap.size w w2 := Below.trans (by first | exact hB | exact hB.drew) (hB2.mono (by exact hsz))
                   have n0 := (hG2.cell (i * 3)).trans (ncells_get _ _ _ (by omega))
                   have z0 := hG2.frozen (i * 3)
                   have n1 : ∀ v, (w2.setCell ⟨gl, i * 3, none⟩ v).cell? ⟨gl, i * 3 + 1, none⟩ = some (ncell (ndS (fun j => decide (i < j)) bs h) (i * 3 + 1)) := fun v => ((hG2.put (i * 3) v).cell (i * 3 + 1)).trans (by rw [Array.getElem?_setIfInBounds_ne (by omega)]; exact ncells_get _ _ _ (by omega))
                   have z1 : ∀ v, (w2.setCell ⟨gl, i * 3, none⟩ v).frozen? ⟨gl, i * 3 + 1, none⟩ = false := fun v => (hG2.put (i * 3) v).frozen (i * 3 + 1)
                   have n2 : ∀ v u, ((w2.setCell ⟨gl, i * 3, none⟩ v).setCell ⟨gl, i * 3 + 1, none⟩ u).cell? ⟨gl, i * 3 + 2, none⟩ = some (ncell (ndS (fun j => decide (i < j)) bs h) (i * 3 + 2)) := fun v u => (((hG2.put (i * 3) v).put (i * 3 + 1) u).cell (i * 3 + 2)).trans (by rw [Array.getElem?_setIfInBounds_ne (by omega), Array.getElem?_setIfInBounds_ne (by omega)]; exact ncells_get _ _ _ (by omega))
                   have z2 : ∀ v u, ((w2.setCell ⟨gl, i * 3, none⟩ v).setCell ⟨gl, i * 3 + 1, none⟩ u).frozen? ⟨gl, i * 3 + 2, none⟩ = false := fun v u => ((hG2.put (i * 3) v).put (i * 3 + 1) u).frozen (i * 3 + 2)
                   refine ⟨_, rfl, ?_⟩))
              all_goals
                go_wp2_with fail
                go_roundw
                case rel =>
                  refine ⟨i - 1, by omega, rfl, ((hN2.far hne.symm _).far hne.symm _).far hne.symm _, ?_, ((hBw2.setCell hwg _).setCell hwg _).setCell hwg _⟩
                  have e := ncells_set (ndS (fun j => decide (i < j)) bs h) (ndS (fun j => decide (i - 1 < j)) bs h) (3 * M) i (fun q hq => by
                    unfold ndS
                    by_cases hp : i < q
                    · rw [if_pos (by simp; omega), if_pos (by simp; omega)]
                    · rw [if_neg (by simp; omega), if_neg (by simp; omega)])
                  have e2 : ndS (fun j => decide (i - 1 < j)) bs h i = (E3, R3, S3) := by
                    unfold ndS
                    rw [if_pos (by simp; omega), HVI.out]
                  rw [Nat.mul_comm 3 i, e2] at e
                  rw [← e]
                  exact ((hG2.put (i * 3) _).put (i * 3 + 1) _).put (i * 3 + 2) _
                case measure => simp [intOf]; omega
end Go.Proofs.YtacllonekidocaaGreatDoor
