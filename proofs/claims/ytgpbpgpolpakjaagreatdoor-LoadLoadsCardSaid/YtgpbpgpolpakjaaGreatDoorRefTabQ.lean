/- Proof text. -/
import Derived.Test.YtgpbpgpolpakjaaGreatDoorRefTabB
import Derived.Test.YtgpbpgpolpakjaaGreatDoorLoadP
import Derived.Test.YtgpbpgpolpakjaaGreatDoorRefT
import Derived.Test.YtgpbpgpolpakjaaGreatDoorSemiW
import Derived.StillTailTactics
set_option maxHeartbeats 8000000
set_option linter.unusedVariables false
set_option linter.unusedSimpArgs false
set_option maxRecDepth 100000
namespace Go.Proofs.YtgpbpgpolpakjaaGreatDoor
open Go.RowKit Go.Shelf L
theorem zpl (t : TabN) (A : Option Addr) (c : Nat) (w : World) (hl : Lst w A (entC t.es)) (hf : zae t) (hL : (zak t).length ≤ 1000000000) :
  Calls Tryz.prog 113 #[.agg #[.int .i64 t.deep, .int .i64 t.size, .slice A t.es.length c]] w fun e w' => e = .returned (.string (bs (tabL t))) ∧ Below w.heap.size w w' := by
 have hX0 := za.new w 107 #[.int .i64 t.deep, .int .i64 t.size, .slice A t.es.length c]
 have hB0 : Below w.heap.size w (w.alloc (.cells #[.int .i64 t.deep, .int .i64 t.size, .slice A t.es.length c] 107)) := (Below.refl _ _).alloc (Nat.le_refl _) _
 have C1 := hid (zjr t A c (w.alloc (.cells #[.int .i64 t.deep, .int .i64 t.size, .slice A t.es.length c] 107)) (hl.below hB0) hf hL)
 have hz1 : (bs (zak t)).size = (zak t).length := zc4 _
 have HS := hid (fun W => zhe (bs (zak t)) W (by omega))
 have HE := hid (fun W => zbl (sumL (zak t)) W (zfe _))
 have HT := hid (show bs (zak t) ++ bs (leB (sumL (zak t)) 8) = bs (tabL t) from zgk _ _)
 have z2 : (bs (leB (sumL (zak t)) 8)).size = 8 := by rw [zc4, ze]
 change Hid (∀ W, Calls _ _ _ W fun e w' => e = .returned (.int .u64 (sumL (zak t) : Nat)) ∧ W = w') at HS
 change Hid (∀ W, Calls _ _ _ W fun e w' => e = .returned (.string (bs (leB (sumL (zak t)) 8))) ∧ Below W.heap.size W w') at HE
 generalize bs (leB (sumL (zak t)) 8) = E1 at *
 generalize sumL (zak t) = sv at *
 generalize bs (zak t) = E0 at *
 have b1 : ¬ 9223372036854775807 < E0.size + E1.size := by omega
 go_enter Tryz.func113, Tryz.ntmps113
 go_wp2_with fail
 go_at_call 126
 with_reducible refine C1.out.mono ?_
 rintro e w1 ⟨rfl, h1⟩
 have hB1 := hB0.trans (h1.mono hB0.size)
 go_wp2_with fail
 go_at_call 24
 with_reducible refine (HS.out _).mono ?_
 rintro e w2 ⟨rfl, h2⟩
 subst h2
 go_wp2_with fail
 go_at_call 23
 with_reducible refine (HE.out _).mono ?_
 rintro e w3 ⟨rfl, h3⟩
 have hB3 := hB1.trans (h3.mono hB1.size)
 have hcc := HT.out
 go_wp2_with fail
 go_ret
 exact ⟨by first | rfl | (show Ending.returned (Value.string (E0 ++ E1)) = _; rw [hcc]), hB3⟩
theorem zvw : Tryz.prog.underlying 107 = some (.struct (Tryz.prog.underlying 107 |>.elim #[] fun | .struct fs => fs | _ => #[])) := by rfl
def zhv (s : ByteArray) (deep : Nat) (w : World) (e : Ending) (w' : World) : Prop :=
 ∃ A c, e = .returned (.agg #[.int .i64 (tblS s deep).deep, .int .i64 (tblS s deep).size, .slice A (tblS s deep).es.length c]) ∧ Lst w' A (entC (tblS s deep).es) ∧ Below w.heap.size w w'
theorem zir (s : ByteArray) (deep : Nat) (w : World) (hs : s.size ≤ 4096) (h1 : 1 ≤ deep) (h2 : deep ≤ 4096) :
  Calls Tryz.prog 74 #[.string s, .int .i64 (deep : Nat)] w (zhv s deep w) := by
 obtain ⟨i0, hi, hz0, hz1, hz2⟩ := info_parts Tryz.infoEnt
 have HR := hid (fun W => zk3 s deep W hs h1 h2)
 have hfew := ze5 (nb s) deep
 rw [zf] at hfew
 have HOK := hid (fun r (hr : r ∈ recs (nb s) deep) => zhf hr hs)
 have HPO := hid (show ∀ w' A c, Lst w' A (entC ((recs (nb s) deep).map (recE s))) → Below w.heap.size w w' → zhv s deep w (.returned (.agg #[.int .i64 (deep : Nat), .int .i64 (s.size : Nat), .slice A (recs (nb s) deep).length c])) w' from fun w' A c a1 a2 => ⟨A, c, by unfold tblS; simp, a1, a2⟩)
 have HIB := hid (fun t W ht => zhu t W ht)
 have HNB := hid (fun a b => (show nb (s.extract a b) = sub_ (nb s) a b from zgi s a b))
 generalize recs (nb s) deep = X at *
 have hR0 := za.new w 107 #[.int .i64 0, .int .i64 0, .slice none 0 0]
 have hB0 : Below w.heap.size w (w.alloc (.cells #[.int .i64 0, .int .i64 0, .slice none 0 0] 107)) := (Below.refl _ _).alloc (Nat.le_refl _) _
 go_enter Tryz.func74, Tryz.ntmps74
 go_wp2_with fail
 generalize (w.alloc (.cells #[.int .i64 0, .int .i64 0, .slice none 0 0] 107)) = W0 at *
 refine (HR.out _).mono ?_
 rintro e w1 ⟨Al, cl, rfl, hl1, hB1⟩
 have hR1 := hR0.below hB1
 have hB01 := hB0.trans (hB1.mono hB0.size)
 have hX2 := za.new w1 107 #[.int .i64 (deep : Nat), .int .i64 (s.size : Nat), .slice none 0 0]
 have hB12 : Below w1.heap.size w1 (w1.alloc (.cells #[.int .i64 (deep : Nat), .int .i64 (s.size : Nat), .slice none 0 0] 107)) := (Below.refl _ _).alloc (Nat.le_refl _) _
 have hz2' : w1.heap.size + 1 ≤ (w1.alloc (.cells #[.int .i64 (deep : Nat), .int .i64 (s.size : Nat), .slice none 0 0] 107)).heap.size := by simp
 have hR1l := hR1.lt
 have HKR := hid (show ∀ wr, Below w1.heap.size w1 wr → za wr w.heap.size 107 #[.int .i64 0, .int .i64 0, .slice none 0 0] from fun wr h => hR1.below h)
 have HKL := hid (show ∀ wr, Below w1.heap.size w1 wr → Lst wr Al (recC X) from fun wr h => hl1.below h)
 have HBW := hid (show ∀ wr, Below w1.heap.size w1 wr → Below w.heap.size w wr from fun wr h => hB01.trans (h.mono hB01.size))
 clear hR0 hB0 hB1 hl1 HR hR1 hB01
 go_wp2_with fail
 generalize w1.alloc (.cells #[.int .i64 (deep : Nat), .int .i64 (s.size : Nat), .slice none 0 0] 107) = W2 at *
 generalize hTe : w1.heap.size = T at *
 go_loopw [8] (fun iv wr => ∃ (k : Nat) (A : Option Addr) (c : Nat), iv = .int .i64 (k : Nat) ∧ k ≤ X.length ∧ za wr T 107 #[.int .i64 (deep : Nat), .int .i64 (s.size : Nat), .slice A k c] ∧ wr.ownsRow (T + 1) 113 5 (.slice A k c) k (entC ((X.take k).map (recE s))) ∧ Below T w1 wr ∧ T + 1 ≤ wr.heap.size) (fun iv _ => X.length - (intOf iv).toNat)
 case atStart => exact ⟨0, none, 0, rfl, by omega, hX2, World.ownsRow_nil _ _ _ _, hB12, hz2'⟩
 case round =>
  obtain ⟨k, A, c, rfl, hk, hX, hown, hB, hz⟩ := hrel
  clear hX2 hB12 hz2'
  have t2 := hX.cell 2
  rcases Nat.lt_or_ge k X.length with hlt | hge
  ·have hki : (k : Int) < (X.length : Int) := by omega
   have hk0 : (0 : Int) ≤ (k : Int) := by omega
   have hkW := zg k (by omega)
   obtain ⟨gl, ol, rfl, q0, q1, q2, q3⟩ := zfg (HKL.out _ hB) hlt
   have hok := HOK.out X[k] (List.getElem_mem hlt)
   have HT := hid (show (X.take (k + 1)).map (recE s) = (X.take k).map (recE s) ++ [recE s X[k]] by rw [List.take_succ_eq_append_getElem hlt, List.map_append]; rfl)
   generalize X[k] = r at *
   obtain ⟨ra, rb, rv, rp⟩ := r
   dsimp only at *
   have y0 := fun o : Obj => (World.cell?_alloc_some wr _ o (by rw [q0]; rfl)).trans q0
   have y1 := fun o : Obj => (World.cell?_alloc_some wr _ o (by rw [q1]; rfl)).trans q1
   have y2 := fun o : Obj => (World.cell?_alloc_some wr _ o (by rw [q2]; rfl)).trans q2
   have y3 := fun o : Obj => (World.cell?_alloc_some wr _ o (by rw [q3]; rfl)).trans q3
   obtain ⟨o1, o2, o3, o4, o5, o6, o7⟩ := hok
   by_cases hv : rv = 1
   ·have hvb : ((rv : Int) == 1) = true := by rw [hv]; rfl
    have hvc : (rv : Int) = 1 := by omega
    have HIX := hid (fun W => HIB.out (s.extract ra rb) W (by rw [ByteArray.size_extract]; omega))
    rw [HNB.out] at HIX
    have HJ := hid (show entV (recE s ⟨ra, rb, rv, rp⟩) = [.int .i64 (ra : Nat), .int .i64 (rb : Nat), .int .i64 1, .int .i64 (rp : Nat), .string (idxS (sub_ (nb s) ra rb))] by unfold recE entV idxOf; rw [if_pos hv]; dsimp only; rw [hvc])
    generalize idxS (sub_ (nb s) ra rb) = J at *
    have hEa : za (World.drew (wr.alloc (.cells #[.int .i64 (ra : Nat), .int .i64 (rb : Nat), .int .i64 1, .int .i64 (rp : Nat), .string ⟨#[]⟩] 113))) wr.heap.size 113 #[.int .i64 (ra : Nat), .int .i64 (rb : Nat), .int .i64 1, .int .i64 (rp : Nat), .string ⟨#[]⟩] := za.new wr _ _
    have hBa : Below wr.heap.size wr (World.drew (wr.alloc (.cells #[.int .i64 (ra : Nat), .int .i64 (rb : Nat), .int .i64 1, .int .i64 (rp : Nat), .string ⟨#[]⟩] 113))) := ((Below.refl _ _).alloc (Nat.le_refl _) _).drew
    have a0 := hEa.cell 0
    have a1 := hEa.cell 1
    have a2 := hEa.cell 2
    clear hv
    go_wp2_with fail
    go_region
    go_wp2_with fail
    refine (HIX.out _).mono ?_
    rintro e w5 ⟨rfl, hB5⟩
    have hE5 : za w5 wr.heap.size 113 #[.int .i64 (ra : Nat), .int .i64 (rb : Nat), .int .i64 1, .int .i64 (rp : Nat), .string ⟨#[]⟩] := za.below hEa hB5
    have x4 := hE5.cell 4
    have f4 := hE5.frozen 4
    have hE9 := hE5.put 4 (.string J)
    have hB9 := (hBa.trans (hB5.mono hBa.size)).setCell (p := ⟨wr.heap.size, 4, none⟩) (Nat.le_refl _) (.string J)
    have x0 := hE5.cell 0
    have x1 := hE5.cell 1
    have x2 := hE5.cell 2
    have x3 := hE5.cell 3
    have hX5 := hX.below (hBa.trans (hB5.mono hBa.size))
    have z2 := hX5.cell 2
    have hTE : T ≠ wr.heap.size := by have := hX.lt; omega
    have hTE2 : ¬ (wr.heap.size = T) := fun e => hTE e.symm
    have hX9 := hX.below hB9
    have t2 := hX9.cell 2
    have e0 := hE9.cell 0
    have e1 := hE9.cell 1
    have e2 := hE9.cell 2
    have e3 := hE9.cell 3
    have e4 := hE9.cell 4
    have hown9 : (w5.setCell ⟨wr.heap.size, 4, none⟩ (.string J)).ownsRow (T + 1) 113 5 (.slice A k c) k (entC ((X.take k).map (recE s))) := zac (S := fun _ => False) hown (Only.of_below hB9) (fun _ _ h => h)
    have hlt3 : ∀ j, (Value.slice A k c).ownBlock = some j → T + 1 ≤ j := fun j hj => (hown9.lt j hj).1
    have hB19 := hB.trans (hB9.mono (by omega : T ≤ wr.heap.size))
    have hz9 : T + 1 ≤ (w5.setCell ⟨wr.heap.size, 4, none⟩ (.string J)).heap.size := by have := hB9.size; omega
    have hX9l := hX9.lt
    have hz9s := hz9
    simp at hz9s
    go_wp2_with (at_builtin
                 go_must (refine wpList_append_own_at _ rfl (.tmp 56) (.tmp 58) 105 rfl (T + 1) 113 i0 _ 5 48 Tryz.underlying105 hi hz0 hz1 hz2 rfl (by decide) (.slice A k c) k _ rfl (hown9.alloc _) ⟨_, 0, none⟩ 1 1 [.int .i64 (ra : Nat), .int .i64 (rb : Nat), .int .i64 1, .int .i64 (rp : Nat), .string J] rfl rfl (zdi _ _ _ _ _ _ _ _ (by simp)) ?hone ?h63 ?hby ?hbs ?_)
                 go_must (case hone => simp [Value.oneCell'])
                 go_must (case h63 => simp only [maxLen]; omega)
                 go_must (case hby => omega)
                 go_must (case hbs => simp; omega)
                 intro v4 w4 hown4 hgr4 _ hat4
                 obtain ⟨A4, c4, rfl⟩ := zam hown4
                 have hX4 : za w4 T 107 #[.int .i64 (deep : Nat), .int .i64 (s.size : Nat), .slice A k c] := (hX9.alloc _).kept (hgr4.block T (by simp; omega) (fun e => by have := hlt3 T e.symm; omega))
                 have t2 := hX4.cell 2
                 have g2 := hX4.frozen 2)
    have hB4 : Below T w1 w4 := (hB19.alloc (by omega) (.cells #[.int .i64 (ra : Nat), .int .i64 (rb : Nat), .int .i64 1, .int .i64 (rp : Nat), .string J] 113)).grown hgr4 (by simp; omega) (fun j hj => by have := hlt3 j hj; omega)
    have hown5 := zac hown4 ((Only.refl (fun i => i = T) w4).setCell (p := ⟨T, 2, none⟩) (.inl rfl) (.slice A4 (k + 1) c4)) (fun j hj e => by have := (hown4.lt j hj).1; omega)
    have hz4 := hgr4.size
    go_wp2_with fail
    go_roundw
    case rel => exact ⟨k + 1, A4, c4, by go_num, hlt, hX4.put 2 _, by rw [HT.out, zgj, HJ.out]; exact hown5, hB4.setCell (p := ⟨T, 2, none⟩) (Nat.le_refl _) _, by simp at hz4 ⊢; omega⟩
    case measure => simp [intOf]; omega
   ·have hvb : ((rv : Int) == 1) = false := by rw [beq_eq_false_iff_ne]; omega
    have hvc : ¬ ((rv : Int) = 1) := by omega
    have HJ := hid (show entV (recE s ⟨ra, rb, rv, rp⟩) = [.int .i64 (ra : Nat), .int .i64 (rb : Nat), .int .i64 (rv : Nat), .int .i64 (rp : Nat), .string ⟨#[]⟩] by unfold recE entV idxOf; rw [if_neg hv])
    have hE9 : za (World.drew (wr.alloc (.cells #[.int .i64 (ra : Nat), .int .i64 (rb : Nat), .int .i64 (rv : Nat), .int .i64 (rp : Nat), .string ⟨#[]⟩] 113))) wr.heap.size 113 #[.int .i64 (ra : Nat), .int .i64 (rb : Nat), .int .i64 (rv : Nat), .int .i64 (rp : Nat), .string ⟨#[]⟩] := za.new wr _ _
    have hB9 : Below wr.heap.size wr (World.drew (wr.alloc (.cells #[.int .i64 (ra : Nat), .int .i64 (rb : Nat), .int .i64 (rv : Nat), .int .i64 (rp : Nat), .string ⟨#[]⟩] 113))) := ((Below.refl _ _).alloc (Nat.le_refl _) _).drew
    go_wp2_with fail
    go_region
    have z2 := t2
    have hXl := hX.lt
    have hTE : T ≠ wr.heap.size := by omega
    have hTE2 : ¬ (wr.heap.size = T) := fun e => hTE e.symm
    have hX9 := hX.below hB9
    have t2 := hX9.cell 2
    have e0 := hE9.cell 0
    have e1 := hE9.cell 1
    have e2 := hE9.cell 2
    have e3 := hE9.cell 3
    have e4 := hE9.cell 4
    have hown9 : (World.drew (wr.alloc (.cells #[.int .i64 (ra : Nat), .int .i64 (rb : Nat), .int .i64 (rv : Nat), .int .i64 (rp : Nat), .string ⟨#[]⟩] 113))).ownsRow (T + 1) 113 5 (.slice A k c) k (entC ((X.take k).map (recE s))) := zac (S := fun _ => False) hown (Only.of_below hB9) (fun _ _ h => h)
    have hlt3 : ∀ j, (Value.slice A k c).ownBlock = some j → T + 1 ≤ j := fun j hj => (hown9.lt j hj).1
    have hB19 := hB.trans (hB9.mono (by omega : T ≤ wr.heap.size))
    have hz9 : T + 1 ≤ (World.drew (wr.alloc (.cells #[.int .i64 (ra : Nat), .int .i64 (rb : Nat), .int .i64 (rv : Nat), .int .i64 (rp : Nat), .string ⟨#[]⟩] 113))).heap.size := by have := hB9.size; omega
    have hX9l := hX9.lt
    have hz9s := hz9
    simp at hz9s
    go_wp2_with (at_builtin
                 go_must (refine wpList_append_own_at _ rfl (.tmp 56) (.tmp 58) 105 rfl (T + 1) 113 i0 _ 5 48 Tryz.underlying105 hi hz0 hz1 hz2 rfl (by decide) (.slice A k c) k _ rfl (hown9.alloc _) ⟨_, 0, none⟩ 1 1 [.int .i64 (ra : Nat), .int .i64 (rb : Nat), .int .i64 (rv : Nat), .int .i64 (rp : Nat), .string ⟨#[]⟩] rfl rfl (zdi _ _ _ _ _ _ _ _ (by simp)) ?honeb ?h63b ?hbyb ?hbsb ?_)
                 go_must (case honeb => simp [Value.oneCell'])
                 go_must (case h63b => simp only [maxLen]; omega)
                 go_must (case hbyb => omega)
                 go_must (case hbsb => simp; omega)
                 intro v4 w4 hown4 hgr4 _ hat4
                 obtain ⟨A4, c4, rfl⟩ := zam hown4
                 have hX4 : za w4 T 107 #[.int .i64 (deep : Nat), .int .i64 (s.size : Nat), .slice A k c] := (hX9.alloc _).kept (hgr4.block T (by simp; omega) (fun e => by have := hlt3 T e.symm; omega))
                 have t2 := hX4.cell 2
                 have g2 := hX4.frozen 2)
    have hB4 : Below T w1 w4 := (hB19.alloc (by omega) (.cells #[.int .i64 (ra : Nat), .int .i64 (rb : Nat), .int .i64 (rv : Nat), .int .i64 (rp : Nat), .string ⟨#[]⟩] 113)).grown hgr4 (by simp; omega) (fun j hj => by have := hlt3 j hj; omega)
    have hown5 := zac hown4 ((Only.refl (fun i => i = T) w4).setCell (p := ⟨T, 2, none⟩) (.inl rfl) (.slice A4 (k + 1) c4)) (fun j hj e => by have := (hown4.lt j hj).1; omega)
    have hz4 := hgr4.size
    go_wp2_with fail
    go_roundw
    case rel => exact ⟨k + 1, A4, c4, by go_num, hlt, hX4.put 2 _, by rw [HT.out, zgj, HJ.out]; exact hown5, hB4.setCell (p := ⟨T, 2, none⟩) (Nat.le_refl _) _, by simp at hz4 ⊢; omega⟩
    case measure => simp [intOf]; omega
  ·obtain rfl : k = X.length := by omega
   have hRr := HKR.out _ hB
   have t0 := hX.cell 0
   have t1 := hX.cell 1
   have r0 := hRr.cell 0
   have r1 := hRr.cell 1
   have r2 := hRr.cell 2
   have f0 := hRr.frozen 0
   have f1 := hRr.frozen 1
   have f2 := hRr.frozen 2
   go_wp2_with fail
   (try simp only [Exit.inBlock, Exit.then])
   refine bodyPost_ret (results_cell_row rfl _ _ w.heap.size 107 _ (0, 0) _ rfl (zba hRr _ _ _) zvw rfl (by kernel_rfl)) rfl ?_
   have hl := zdq hown (by omega)
   rw [List.take_length] at hl
   have hnr : ∀ ad, A = some ad → ad.block ≠ w.heap.size := fun ad e => by have := zk5 hown ad e; omega
   exact HPO.out _ A c (((hl.setCell (p := ⟨w.heap.size, 0, none⟩) hnr _).setCell (p := ⟨w.heap.size, 1, none⟩) hnr _).setCell (p := ⟨w.heap.size, 2, none⟩) hnr _) (zat (HBW.out _ hB) (Nat.le_refl _) _ _ _)
theorem zpm (s : ByteArray) (deep : Nat) (w : World) (hs : s.size ≤ 4096) (h1 : 1 ≤ deep) (h2 : deep ≤ 4096) :
  Calls Tryz.prog 64 #[.string s, .int .i64 (deep : Nat)] w fun e w' => e = .returned (.string (tabS s deep)) ∧ Below w.heap.size w w' := by
 have HTB := hid (fun W => zir s deep W hs h1 h2)
 have HWR := hid (fun A c W hW => (show Calls Tryz.prog 113 #[.agg #[.int .i64 (tblS s deep).deep, .int .i64 (tblS s deep).size, .slice A (tblS s deep).es.length c]] W fun e w' => e = .returned (.string (tabS s deep)) ∧ Below W.heap.size W w' from zpl (tblS s deep) A c W hW (zqv s deep hs h1 h2) (zqy s deep hs)))
 unfold zhv at HTB
 generalize tabS s deep = I at *
 generalize tblS s deep = u at *
 go_enter Tryz.func64, Tryz.ntmps64
 go_wp2_with fail
 refine (HTB.out _).mono ?_
 rintro e w1 ⟨A, c, rfl, hl1, hB1⟩
 go_wp2_with fail
 refine (HWR.out A c _ hl1).mono ?_
 rintro e w2 ⟨rfl, hB2⟩
 go_wp2_with fail
 go_ret
 exact ⟨rfl, hB1.trans (hB2.mono hB1.size)⟩
end Go.Proofs.YtgpbpgpolpakjaaGreatDoor
