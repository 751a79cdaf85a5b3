/- Proof text. -/
import Derived.Test.YtgpbpgpolpakjaaGreatDoorBase
import Derived.Test.YtgpbpgpolpakjaaGreatDoorMaths
import Derived.Test.YtgpbpgpolpakjaaGreatDoorShelf
import Derived.StillTailTactics
import Derived.Deep.RegionHeld3
import Derived.Deep.RegionLaw
import Derived.Lib.Builder
import Derived.Laws.BytesArg
set_option maxHeartbeats 1000000
set_option linter.unusedVariables false
set_option linter.unusedSimpArgs false
namespace Go.Proofs.YtgpbpgpolpakjaaGreatDoor
open Go.RowKit L
theorem zed (x : Nat) (w : World) (hx : x < 18446744073709551616) :
  Calls Tryz.prog 130 #[.int .u64 (x : Int)] w fun e w' => e = .returned (.int .i64 (need x : Nat)) ∧ w = w' := by
 go_enter Tryz.func130, Tryz.ntmps130
 go_wp2_with (go_at_call 164; refine (Tryz.bits_Len64 _ _ (by omega) (by omega)).mono ?_; rintro e w' ⟨rfl, rfl⟩)
 go_ret
 exact ⟨rfl, rfl⟩
end Go.Proofs.YtgpbpgpolpakjaaGreatDoor
set_option maxRecDepth 100000
namespace Go.Proofs.YtgpbpgpolpakjaaGreatDoor
open Go.RowKit L
def BuilderAt (w : World) (base g : Nat) (v : Value) (bs : List Bool) : Prop :=
 za w g 126 #[v, .int .i64 (bs.length : Nat)] ∧ w.ownsRow base 47 1 v (zh bs.length) ((words bs).map (fun x => Value.int .u64 (x : Nat)))
section
variable {w : World} {base g : Nat} {v : Value} {bs : List Bool}
theorem BuilderAt.blk (h : BuilderAt w base g v bs) : za w g 126 #[v, .int .i64 (bs.length : Nat)] := h.1
theorem BuilderAt.own (h : BuilderAt w base g v bs) : w.ownsRow base 47 1 v (zh bs.length) ((words bs).map (fun x => Value.int .u64 (x : Nat))) := h.2
theorem BuilderAt.mk (h1 : za w g 126 #[v, .int .i64 (bs.length : Nat)]) (h2 : w.ownsRow base 47 1 v (zh bs.length) ((words bs).map (fun x => Value.int .u64 (x : Nat)))) : BuilderAt w base g v bs := ⟨h1, h2⟩
end
theorem Tryz.infoU64 : (Tryz.prog.info? 47).map (fun i => (i.zero, i.size, i.bytes)) = some (some (.int .u64 0), 1, 8) := by kernel_rfl
theorem zly (w : World) (x : Value) (e : TypeId) (k : Nat) (hk : k = w.heap.size) : ∀ j u, [x][j]? = some u → (w.alloc (.cells #[x] e)).cell? ((⟨k, 0, none⟩ : Addr).add j) = some u := by
 subst hk; exact cell_one_new _ _ _
def zau (w w' : World) (base g : Nat) (v : Value) (bs' : List Bool) : Prop :=
 ∃ v', BuilderAt w' base g v' bs' ∧ (v'.ownBlock = v.ownBlock ∨ ∃ k, v'.ownBlock = some k ∧ w.heap.size ≤ k) ∧ Only (fun i => i = g ∨ v.ownBlock = some i) w w'
theorem zp4 {w w1 : World} {base g : Nat} {v v' : Value} {bs bs' : List Bool} {m : Int} (ho : Only (fun i => i = g ∨ v.ownBlock = some i) w w1) (hb : za w1 g 126 #[v, .int .i64 (bs.length : Nat)])
  (hown : w1.ownsRow base 47 1 v' (zh bs'.length) ((words bs').map (fun x => Value.int .u64 (x : Nat)))) (hat : v'.ownBlock = v.ownBlock ∨ ∃ k, v'.ownBlock = some k ∧ w.heap.size ≤ k) (hm : m = (bs'.length : Nat)) :
  zau w ((w1.setCell ⟨g, 0, none⟩ v').setCell ⟨g, 1, none⟩ (.int .i64 m)) base g v bs' := by
 subst hm
 have hne : v'.ownBlock ≠ some g := hb.ne_own hown (by decide)
 have s1 : Only (fun i => i = g) w1 (w1.setCell ⟨g, 0, none⟩ v') := (Only.refl (fun i => i = g) w1).setCell (p := ⟨g, 0, none⟩) (.inl rfl) _
 have s2 : Only (fun i => i = g) w1 ((w1.setCell ⟨g, 0, none⟩ v').setCell ⟨g, 1, none⟩ (.int .i64 (bs'.length : Nat))) := s1.setCell (p := ⟨g, 1, none⟩) (.inl rfl) _
 refine ⟨v', BuilderAt.mk ((hb.put 0 v').put 1 _) (zac hown s2 (fun k hk e => hne (by rw [hk, e]))), hat, ho.trans s2 (fun i _ hi => .inl hi)⟩
theorem zxk {w w1 : World} {base g : Nat} {v : Value} {bs bs' : List Bool} {m : Int} (ho : Only (fun i => i = g ∨ v.ownBlock = some i) w w1) (hb : za w1 g 126 #[v, .int .i64 (bs.length : Nat)])
  (hown : w1.ownsRow base 47 1 v (zh bs'.length) ((words bs').map (fun x => Value.int .u64 (x : Nat)))) (hm : m = (bs'.length : Nat)) :
  zau w (w1.setCell ⟨g, 1, none⟩ (.int .i64 m)) base g v bs' := by
 subst hm
 have hne : v.ownBlock ≠ some g := hb.ne_own hown (by decide)
 have s2 : Only (fun i => i = g) w1 (w1.setCell ⟨g, 1, none⟩ (.int .i64 (bs'.length : Nat))) := (Only.refl (fun i => i = g) w1).setCell (p := ⟨g, 1, none⟩) (.inl rfl) _
 refine ⟨v, BuilderAt.mk (hb.put 1 _) (zac hown s2 (fun k hk e => hne (by rw [hk, e]))), .inl rfl, ho.trans s2 (fun i _ hi => .inl hi)⟩
theorem zau.drew {w w' : World} {base g : Nat} {v : Value} {bs' : List Bool} (h : zau w w' base g v bs') : zau w w'.drew base g v bs' := by
 obtain ⟨v', hb, hat, ho⟩ := h
 exact ⟨v', BuilderAt.mk hb.blk hb.own, hat, ho.drew⟩
theorem zgb (a x s : Nat) (ha : a < 18446744073709551616) : bits BinOp.or IntKind.u64 (a : Int) (IntKind.u64.wrap ((x : Int) * 2 ^ s)) = ((a ||| (x * 2 ^ s % 18446744073709551616) : Nat) : Int) := by
 have e : IntKind.u64.wrap ((x : Int) * 2 ^ s) = ((x * 2 ^ s % 18446744073709551616 : Nat) : Int) := by rw [IntKind.wrap_u64]; simp
 rw [e]; exact u64_or_nat _ _ ha (Nat.mod_lt _ (by omega))
theorem z10 (g : Nat) (k : Nat) (w : World) (hk : k ≤ 4294967296) (hc : w.cell? ⟨g, 1, none⟩ = some (.int .i64 (k : Nat))) :
  Calls Tryz.prog 97 #[.pointer (some ⟨g, 0, none⟩), .int .u64 (0 : Nat), .int .i64 0] w fun e w' => e = .returned (.int .i64 0) ∧ w = w' := by
 have h0 : need 0 = 0 := by decide
 go_enter Tryz.func97, Tryz.ntmps97
 go_wp2_with (go_at_call 130; refine (zed 0 _ (by omega)).mono ?_; rw [h0]; rintro e w' ⟨rfl, rfl⟩)
 go_ret
 exact ⟨rfl, rfl⟩
theorem z5v (x n : Nat) (base g : Nat) (v : Value) (bs : List Bool) (w : World) (hx : x < 2 ^ n) (h0 : 0 < n) (hn : n ≤ 64) (hl : bs.length + n ≤ 4294967296) (hb : BuilderAt w base g v bs) (hbase : base ≤ w.heap.size) (ha : bs.length % 64 = 0) :
  Calls Tryz.prog 97 #[.pointer (some ⟨g, 0, none⟩), .int .u64 (x : Int), .int .i64 (n : Nat)] w fun e w' => e = .returned (.int .i64 0) ∧
   zau w w' base g v (bs ++ bitsOf x n) := by
 have hx64 : x < 18446744073709551616 := Nat.lt_of_lt_of_le hx (zcu hn)
 have hnd : need x ≤ n := (zc8 x n hx64).2 hx
 have c0 := hb.blk.cell 0
 have c1 := hb.blk.cell 1
 have f0 := hb.blk.frozen 0
 have f1 := hb.blk.frozen 1
 have hg := hb.blk.lt
 simp only [List.getElem?_toArray, List.getElem?_cons_zero, List.getElem?_cons_succ] at c0 c1
 have hm : (((bs.length : Nat) : Int) % 64 == 0) = true := by rw [beq_iff_eq]; omega
 have hn1 : (((n : Nat) : Int) == 0) = false := by rw [beq_eq_false_iff_ne]; omega
 have HA := hid ha
 clear ha
 have hne : v.ownBlock ≠ some g := hb.blk.ne_own hb.own (by decide)
 obtain ⟨i0, hi0, hz0, hz1, hz2⟩ := info_parts Tryz.infoU64
 have hnw : zh bs.length ≤ 67108864 := by unfold zh; omega
 go_enter Tryz.func97, Tryz.ntmps97
 go_wp2_with (first
  | (go_at_call 130; refine (zed _ _ hx64).mono ?_; rintro e w' ⟨rfl, rfl⟩)
  | (at_builtin
     go_must (refine wpList_append_lies _ rfl (.tmp 43) (.tmp 45) _ rfl base 47 i0 _ 1 8 Tryz.underlying124 hi0 hz0 hz1 hz2 rfl (by omega) v (zh bs.length) _ rfl (hb.own.alloc _) ⟨w.heap.size, 0, none⟩ 1 1 [.int .u64 (x : Nat)] rfl rfl ?hnews ?hone (by omega) ?h63 ?hby ?hbs (w.heap.size + 1) ?hH ?_)
     case hnews => exact cell_one_new _ _ _
     case hone => simp [Value.oneCell']
     case h63 => simp only [maxLen]; omega
     case hby => omega
     case hbs => simp; omega
     case hH => simp
     intro gv cv w1 hown1 hgr1 hat1 hlt1
     have k0 : w1.cell? ⟨g, 0, none⟩ = some v := (hgr1.cell (a := ⟨g, 0, none⟩) (by rw [World.cell?_alloc_lt _ _ _ hg]; exact c0) hne.symm)
     have k1 : w1.cell? ⟨g, 1, none⟩ = some (.int .i64 (bs.length : Nat)) := (hgr1.cell (a := ⟨g, 1, none⟩) (by rw [World.cell?_alloc_lt _ _ _ hg]; exact c1) hne.symm)
     have hb1 : za w1 g 126 #[v, .int .i64 (bs.length : Nat)] := (hb.blk.alloc _).kept (hgr1.block g (by simp; omega) hne.symm)
     have f0' := hb1.frozen 0
     have f1' := hb1.frozen 1))
 go_ret
 have hO : Only (fun i => i = g ∨ v.ownBlock = some i) w w1 := ((Only.refl _ _).alloc _).trans (Only.of_grown hgr1) (fun i _ hi => .inr hi.symm)
 have hw := zq1 bs x n HA.out h0 hn hx
 have hlen : (bs ++ bitsOf x n).length = bs.length + n := by rw [List.length_append, zq]
 have hnw2 : zh (bs ++ bitsOf x n).length = zh bs.length + 1 := by rw [hlen]; have := HA.out; unfold zh; omega
 refine ⟨rfl, zp4 hO hb1 ?_ ?_ (by rw [hlen]; omega)⟩
 ·rw [hnw2, hw, List.map_append]; exact hown1
 ·rcases hat1 with e | e
  ·exact .inl e.symm
  ·exact .inr ⟨gv, rfl, by omega⟩
theorem z7w (x n : Nat) (base g : Nat) (v : Value) (bs : List Bool) (w : World) (hx : x < 2 ^ n) (h0 : 0 < n) (hl : bs.length + n ≤ 4294967296) (hb : BuilderAt w base g v bs) (ha : bs.length % 64 ≠ 0) (hn : bs.length % 64 + n ≤ 64) :
  Calls Tryz.prog 97 #[.pointer (some ⟨g, 0, none⟩), .int .u64 (x : Int), .int .i64 (n : Nat)] w fun e w' => e = .returned (.int .i64 0) ∧
   zau w w' base g v (bs ++ bitsOf x n) := by
 have hx64 : x < 18446744073709551616 := Nat.lt_of_lt_of_le hx (zcu (by omega))
 have hnd : need x ≤ n := (zc8 x n hx64).2 hx
 have hq : zh bs.length = bs.length / 64 + 1 := by unfold zh; omega
 obtain ⟨q, hqq⟩ : ∃ q, q = bs.length / 64 := ⟨_, rfl⟩
 have hown := hb.own
 rw [hq, ← hqq] at hown
 obtain ⟨g1, cap, rfl, _, hlt⟩ := hown.form (by omega)
 have c0 := hb.blk.cell 0
 have c1 := hb.blk.cell 1
 have f0 := hb.blk.frozen 0
 have f1 := hb.blk.frozen 1
 have hg := hb.blk.lt
 have cw : w.cell? ⟨g1, q, none⟩ = some (.int .u64 (zk bs q : Nat)) := by
  rw [hown.cellAt q (by omega), List.getElem?_map, za6 _ (by omega)]; rfl
 have fw := hown.frozenAt q
 simp only [List.getElem?_toArray, List.getElem?_cons_zero, List.getElem?_cons_succ] at c0 c1
 have hm : (((bs.length : Nat) : Int) % 64 == 0) = false := by rw [beq_eq_false_iff_ne]; omega
 have hn1 : (((n : Nat) : Int) == 0) = false := by rw [beq_eq_false_iff_ne]; omega
 have HA := hid ha
 have HQ := hid hqq
 have HQ2 := hid hq
 have hq3 : q ≤ 67108864 := by omega
 have hn2 : ((bs.length : Nat) : Int) % 64 + (n : Nat) ≤ 64 := by omega
 clear ha hqq hq
 have hne : (Value.slice (some ⟨g1, 0, none⟩) (q + 1) cap).ownBlock ≠ some g := hb.blk.ne_own hb.own (by decide)
 have hne' : g ≠ g1 := fun e => hne (by rw [e]; rfl)
 go_enter Tryz.func97, Tryz.ntmps97
 go_wp2_with (first
  | (go_at_call 130; refine (zed _ _ hx64).mono ?_; rintro e w' ⟨rfl, rfl⟩))
 have r1 : IntKind.i64.wrap ((q : Int) + 1 - 1) = (q : Int) := by rw [IntKind.wrap_i64]; omega
 have r2 : IntKind.i64.wrap (q : Int) = (q : Int) := by rw [IntKind.wrap_i64]; omega
 have r3 : (0 : Int) ≤ (q : Int) := by omega
 have r4 : (q : Int) < (q : Int) + 1 := by omega
 go_still_tail 17, (by kernel_rfl)
 change wpList _ _ _ _ _ w.drew
 go_wp2
 go_ret
 have hval : bits BinOp.or IntKind.u64 (zk bs q : Nat) (IntKind.u64.wrap ((x : Int) * 2 ^ (bs.length % 64))) = ((zc2 bs x : Nat) : Int) := by
  rw [zgb _ _ _ (za3 _ _), HQ.out]; rfl
 rw [hval]
 have hlen : (bs ++ bitsOf x n).length = bs.length + n := by rw [List.length_append, zq]
 have hnw2 : zh (bs ++ bitsOf x n).length = q + 1 := by rw [hlen]; have := HA.out; have := HQ.out; unfold zh; omega
 have hst := hown.stored q (.int .u64 (zc2 bs x : Nat))
 refine ⟨rfl, (zxk (bs := bs) (v := .slice (some ⟨g1, 0, none⟩) (q + 1) cap) (Only.of_grown hst.2 |>.mono (fun i _ hi => .inr hi.symm)) (hb.blk.far (p := ⟨g1, q, none⟩) hne' _) ?_ (by rw [hlen]; omega)).drew⟩
 rw [hnw2, zr1 bs x n HA.out hn hx, List.map_set, ← HQ.out]
 exact hst.1
theorem z11 (x n : Nat) (base g : Nat) (v : Value) (bs : List Bool) (w : World) (hx : x < 2 ^ n) (hn' : n ≤ 64) (hl : bs.length + n ≤ 4294967296) (hb : BuilderAt w base g v bs) (hbase : base ≤ w.heap.size) (ha : bs.length % 64 ≠ 0) (hn : 64 < bs.length % 64 + n) :
  Calls Tryz.prog 97 #[.pointer (some ⟨g, 0, none⟩), .int .u64 (x : Int), .int .i64 (n : Nat)] w fun e w' => e = .returned (.int .i64 0) ∧
   zau w w' base g v (bs ++ bitsOf x n) := by
 have hx64 : x < 18446744073709551616 := Nat.lt_of_lt_of_le hx (zcu (by omega))
 have hnd : need x ≤ n := (zc8 x n hx64).2 hx
 have hq : zh bs.length = bs.length / 64 + 1 := by unfold zh; omega
 obtain ⟨q, hqq⟩ : ∃ q, q = bs.length / 64 := ⟨_, rfl⟩
 have hown := hb.own
 rw [hq, ← hqq] at hown
 obtain ⟨g1, cap, rfl, _, hlt⟩ := hown.form (by omega)
 have c0 := hb.blk.cell 0
 have c1 := hb.blk.cell 1
 have f0 := hb.blk.frozen 0
 have f1 := hb.blk.frozen 1
 have hg := hb.blk.lt
 have cw : w.cell? ⟨g1, q, none⟩ = some (.int .u64 (zk bs q : Nat)) := by
  rw [hown.cellAt q (by omega), List.getElem?_map, za6 _ (by omega)]; rfl
 have fw := hown.frozenAt q
 simp only [List.getElem?_toArray, List.getElem?_cons_zero, List.getElem?_cons_succ] at c0 c1
 have hm : (((bs.length : Nat) : Int) % 64 == 0) = false := by rw [beq_eq_false_iff_ne]; omega
 have hn1 : (((n : Nat) : Int) == 0) = false := by rw [beq_eq_false_iff_ne]; omega
 have HA := hid ha
 have HQ := hid hqq
 have HQ2 := hid hq
 have hq3 : q ≤ 67108864 := by omega
 have hn2 : 64 < ((bs.length : Nat) : Int) % 64 + (n : Nat) := by omega
 clear ha hqq hq
 have hne : (Value.slice (some ⟨g1, 0, none⟩) (q + 1) cap).ownBlock ≠ some g := hb.blk.ne_own hb.own (by decide)
 have hne' : g ≠ g1 := fun e => hne (by rw [e]; rfl)
 have r1 : IntKind.i64.wrap ((q : Int) + 1 - 1) = (q : Int) := by rw [IntKind.wrap_i64]; omega
 have r2 : IntKind.i64.wrap (q : Int) = (q : Int) := by rw [IntKind.wrap_i64]; omega
 have r3 : (0 : Int) ≤ (q : Int) := by omega
 have r4 : (q : Int) < (q : Int) + 1 := by omega
 have r5 : bits BinOp.or IntKind.u64 (zk bs q : Nat) (IntKind.u64.wrap ((x : Int) * 2 ^ (((bs.length : Nat) : Int) % 64).toNat)) = ((zc2 bs x : Nat) : Int) := by
  rw [zgb _ _ _ (za3 _ _), HQ.out, show (((bs.length : Nat) : Int) % 64).toNat = bs.length % 64 from by omega]; rfl
 have r6 : bits BinOp.or IntKind.u64 (zk bs q : Nat) (IntKind.u64.wrap ((x : Int) * 2 ^ (bs.length % 64))) = ((zc2 bs x : Nat) : Int) := by
  rw [zgb _ _ _ (za3 _ _), HQ.out]; rfl
 have hst := hown.stored q (.int .u64 (zc2 bs x : Nat))
 have c0s : (w.setCell ⟨g1, q, none⟩ (.int .u64 (zc2 bs x : Nat))).cell? ⟨g, 0, none⟩ = some (.slice (some ⟨g1, 0, none⟩) (q + 1) cap) := (World.cell?_setCell_other w _ ⟨g, 0, none⟩ _ (fun e => hne' (by injection e with e1; first | exact e1 | exact e1.symm))).trans c0
 obtain ⟨i0, hi0, hz0, hz1, hz2⟩ := info_parts Tryz.infoU64
 have d1 : (0 : Int) ≤ 64 - ((bs.length : Nat) : Int) % 64 := by omega
 have d2 : IntKind.i64.wrap (64 - ((bs.length : Nat) : Int) % 64) = 64 - ((bs.length : Nat) : Int) % 64 := by rw [IntKind.wrap_i64]; omega
 go_enter Tryz.func97, Tryz.ntmps97
 go_wp2_with (first
  | (go_at_call 130; refine (zed _ _ hx64).mono ?_; rintro e w' ⟨rfl, rfl⟩))
 go_still_tail 17, (by kernel_rfl)
 change wpList _ _ _ _ _ w.drew
 go_wp2
 go_region_law
  ((refine step_append_lies _ (by rfl) (.tmp 74) (.tmp 79) _ (by rfl) base 47 i0 _ 1 8 Tryz.underlying124 hi0 hz0 hz1 hz2 rfl (by omega) (.slice (some ⟨g1, 0, none⟩) (q + 1) cap) (q + 1) _ (by rfl) (by exact hst.1.alloc _) ⟨w.heap.size, 0, none⟩ 1 1 [.int .u64 ((x : Int) / 2 ^ (64 - ((bs.length : Nat) : Int) % 64).toNat)] (by rfl) (by rfl) (by exact zly _ _ _ _ (by simp)) (by simp [Value.oneCell']) (by omega) (by simp only [maxLen]; omega) (by omega) (by simp; omega) (w.heap.size + 1) (by simp) ?_;
    intro g2 cap2 w1 hown1 hgr1 hat1 hlt1;
    have k0 : w1.cell? ⟨g, 0, none⟩ = some (.slice (some ⟨g1, 0, none⟩) (q + 1) cap) := (hgr1.cell (a := ⟨g, 0, none⟩) ((World.cell?_alloc_lt _ _ _ (by simp; omega)).trans c0s) hne.symm);
    have hb1 : za w1 g 126 #[.slice (some ⟨g1, 0, none⟩) (q + 1) cap, .int .i64 (bs.length : Nat)] := ((hb.blk.far (p := ⟨g1, q, none⟩) hne' (.int .u64 (zc2 bs x : Nat))).alloc _).kept (hgr1.block g (by simp; omega) hne.symm);
    have k1 := hb1.cell 1;
    have f0' := hb1.frozen 0;
    have f1' := hb1.frozen 1))
 all_goals
  go_wp2
  go_ret
  have hlen : (bs ++ bitsOf x n).length = bs.length + n := by rw [List.length_append, zq]
  have hnw2 : zh (bs ++ bitsOf x n).length = q + 1 + 1 := by rw [hlen]; have := HA.out; have := HQ.out; unfold zh; omega
  have hnews : ((x : Int) / 2 ^ (64 - ((bs.length : Nat) : Int) % 64).toNat) = ((x / 2 ^ (64 - bs.length % 64) : Nat) : Int) := by
   rw [show (64 - ((bs.length : Nat) : Int) % 64).toNat = 64 - bs.length % 64 from by omega]; simp
  rw [hnews] at hown1
  have hO : Only (fun i => i = g ∨ (Value.slice (some ⟨g1, 0, none⟩) (q + 1) cap).ownBlock = some i) w w1 :=
   (((Only.of_grown hst.2).mono (T := fun i => i = g ∨ (Value.slice (some ⟨g1, 0, none⟩) (q + 1) cap).ownBlock = some i) (fun i _ hi => .inr hi.symm)).alloc (.cells #[.int .u64 ((x : Int) / 2 ^ (64 - ((bs.length : Nat) : Int) % 64).toNat)] 47)).drew.drew.trans (Only.of_grown hgr1) (fun i _ hi => .inr hi.symm)
  refine ⟨rfl, zp4 hO hb1 ?_ ?_ (by rw [hlen]; omega)⟩
  ·rw [hnw2, zoo bs x n HA.out hn hn' hx, List.map_append, List.map_set, ← HQ.out]; exact hown1
  ·rcases hat1 with e | e
   ·exact .inl e.symm
   ·exact .inr ⟨g2, rfl, by omega⟩
theorem zgc (x n : Nat) (base g : Nat) (v : Value) (bs : List Bool) (w : World) (hx : x < 2 ^ n) (hn : n ≤ 64) (hl : bs.length + n ≤ 4294967296) (hb : BuilderAt w base g v bs) (hbase : base ≤ w.heap.size) :
  Calls Tryz.prog 97 #[.pointer (some ⟨g, 0, none⟩), .int .u64 (x : Int), .int .i64 (n : Nat)] w fun e w' => e = .returned (.int .i64 0) ∧
   zau w w' base g v (bs ++ bitsOf x n) := by
 rcases Nat.eq_zero_or_pos n with h0 | h0
 ·subst h0
  have hx0 : x = 0 := by simpa using hx
  subst hx0
  refine (z10 g bs.length w (by omega) (by rw [hb.blk.cell 1]; rfl)).mono ?_
  rintro e w' ⟨rfl, rfl⟩
  exact ⟨rfl, v, by simpa [bitsOf] using hb, .inl rfl, Only.refl _ _⟩
 ·by_cases ha : bs.length % 64 = 0
  ·exact z5v x n base g v bs w hx h0 hn hl hb hbase ha
  ·rcases Nat.lt_or_ge 64 (bs.length % 64 + n) with h | h
   ·exact z11 x n base g v bs w hx hn hl hb hbase ha h
   ·exact z7w x n base g v bs w hx h0 hl hb ha h
open Go.RowKit L
def u64s (l : List Nat) : List Value := l.map (fun x => Value.int .u64 (x : Nat))
def bools (l : List Bool) : List Value := l.map Value.bool
theorem zcx (l : List Bool) : (bools l).length = l.length := by simp [bools]
theorem zkb (l : List Bool) {i : Nat} (h : i < l.length) : (bools l)[i]? = some (.bool (zb l i)) := by
 rw [bools, List.getElem?_map, zf9 l i h]; rfl
def zo (w : World) (g : Nat) (A : Option Addr) (c : Nat) (bs : List Bool) : Prop :=
 za w g 152 #[.slice A (zh bs.length) c, .int .i64 (bs.length : Nat)] ∧ Lst w A (u64s (words bs)) ∧ bs.length ≤ 4294967296
section
variable {w : World} {g : Nat} {A : Option Addr} {c : Nat} {bs : List Bool}
theorem zo.blk (h : zo w g A c bs) : za w g 152 #[.slice A (zh bs.length) c, .int .i64 (bs.length : Nat)] := h.1
theorem zo.lst (h : zo w g A c bs) : Lst w A (u64s (words bs)) := h.2.1
theorem zo.small (h : zo w g A c bs) : bs.length ≤ 4294967296 := h.2.2
theorem zo.mk (h1 : za w g 152 #[.slice A (zh bs.length) c, .int .i64 (bs.length : Nat)]) (h2 : Lst w A (u64s (words bs))) (h3 : bs.length ≤ 4294967296) : zo w g A c bs := ⟨h1, h2, h3⟩
end
theorem zo.below {w w' : World} {g : Nat} {A : Option Addr} {c : Nat} {bs : List Bool} (h : zo w g A c bs) (hb : Below w.heap.size w w') : zo w' g A c bs :=
 zo.mk (h.blk.below hb) (h.lst.below hb) h.small
theorem zo.cells {w : World} {g : Nat} {A : Option Addr} {c : Nat} {bs : List Bool} (h : zo w g A c bs) : w.cell? ⟨g, 0, none⟩ = some (.slice A (zh bs.length) c) ∧ w.cell? ⟨g, 1, none⟩ = some (.int .i64 (bs.length : Nat)) :=
 ⟨by rw [h.blk.cell 0]; rfl, by rw [h.blk.cell 1]; rfl⟩
def zkc (w : World) (bs : List Bool) (e : Ending) (w' : World) : Prop :=
 ∃ g A c, e = .returned (.pointer (some ⟨g, 0, none⟩)) ∧ zo w' g A c bs ∧ w.heap.size ≤ g ∧ (∀ ad, A = some ad → w.heap.size ≤ ad.block) ∧ Below w.heap.size w w'
def z13 (w : World) (n : Nat) (xs : List Value) (e : Ending) (w' : World) : Prop :=
 ∃ A c, e = .returned (.slice A n c) ∧ Lst w' A xs ∧ (∀ ad, A = some ad → w.heap.size ≤ ad.block) ∧ Below w.heap.size w w' ∧ n ≤ c
theorem z14 {w : World} {xs : List Value} (h : Lst w none xs) : xs = [] := by
 cases xs with
 | nil => rfl
 | cons x l => obtain ⟨_, h, _⟩ := h 0 x rfl; cases h
theorem z15 (l : List Nat) : ∀ u ∈ u64s l, u.oneCell' = true := by
 intro u hu
 obtain ⟨x, _, rfl⟩ := List.mem_map.1 hu
 rfl
theorem zho (l : List Bool) : ∀ u ∈ bools l, u.oneCell' = true := by
 intro u hu
 obtain ⟨x, _, rfl⟩ := List.mem_map.1 hu
 rfl
theorem zzl (A : Option Addr) (n c : Nat) (xs : List Value) (w : World) (hr : Lst w A xs) (hl : xs.length = n) (h1 : ∀ u ∈ xs, u.oneCell' = true) (hn : n ≤ 67108864) :
  Calls Tryz.prog 132 #[.slice A n c] w (z13 w n xs) := by
 have he := fun (W : World) => Lib.run_eql_slice_nil (P := Tryz.prog) W 124 47 A n c 0 0 Tryz.underlying124
 obtain ⟨i0, hi0, hz0, hz1, hz2⟩ := info_parts Tryz.infoU64
 rcases A with _ | ad
 ·have hx := z14 hr
  subst hx
  simp only [List.length_nil] at hl
  subst hl
  go_enter Tryz.func132, Tryz.ntmps132
  go_wp2
  go_ret
  exact ⟨none, 0, rfl, Lst.nil_ _ _, (fun ad h => by cases h), Below.refl _ _, Nat.le_refl _⟩
 ·go_enter Tryz.func132, Tryz.ntmps132
  go_wp2_with (at_builtin
               refine zaa _ rfl (.tmp 5) (.tmp 6) _ rfl w.heap.size 47 i0 _ 8 Tryz.underlying124 hi0 hz0 hz1 hz2 rfl (.slice (some ⟨w.heap.size, 0, none⟩) 0 0) 0 [] rfl (zzh w _ _ (Nat.le_refl _)) (some ad) n c xs rfl (hr.alloc _) hl h1 ?h63 ?hby ?hbs _ rfl ?_
               case h63 => simp only [maxLen]; omega
               case hby => omega
               case hbs => simp
               intro A1 c1 w1 hown1 hgr1 hat1)
  go_ret
  refine ⟨A1, c1, ?_, zbw hown1, z1u hown1, ((Below.refl _ _).alloc (Nat.le_refl _) _).grown hgr1 (by simp) (fun k hk => ?_), ?_⟩
  ·simp
  ·have hk' : w.heap.size = k := by simpa [Value.ownBlock] using hk
   omega
  ·have := z5t hown1; omega
theorem zsk (g : Nat) (n : Int) (w : World) (hc : w.cell? ⟨g, 1, none⟩ = some (.int .i64 n)) :
  Calls Tryz.prog 84 #[.pointer (some ⟨g, 0, none⟩)] w fun e w' => e = .returned (.int .i64 n) ∧ w = w' := by
 go_enter Tryz.func84, Tryz.ntmps84
 go_wp2
 go_ret
 exact ⟨rfl, rfl⟩
theorem zar (g : Nat) (n : Int) (w : World) (hc : w.cell? ⟨g, 1, none⟩ = some (.int .i64 n)) :
  Calls Tryz.prog 94 #[.pointer (some ⟨g, 0, none⟩)] w fun e w' => e = .returned (.int .i64 n) ∧ w = w' := by
 go_enter Tryz.func94, Tryz.ntmps94
 go_wp2
 go_ret
 exact ⟨rfl, rfl⟩
def zfi (bs : List Bool) (i : Int) : Bool := decide (0 ≤ i) && zb bs i.toNat
theorem z5w (g : Nat) (A : Option Addr) (c : Nat) (bs : List Bool) (i : Int) (w : World) (hr : zo w g A c bs) :
  Calls Tryz.prog 96 #[.pointer (some ⟨g, 0, none⟩), .int .i64 i] w fun e w' => e = .returned (.bool (zfi bs i)) ∧ w = w' := by
 obtain ⟨c0, c1⟩ := hr.cells
 rcases Int.lt_or_le i 0 with h | h
 ·have e : zfi bs i = false := by unfold zfi; simp; omega
  rw [e]
  go_enter Tryz.func96, Tryz.ntmps96
  go_wp2
  go_ret
  exact ⟨rfl, rfl⟩
 ·obtain ⟨k, rfl⟩ := Int.eq_ofNat_of_zero_le h
  rcases Nat.lt_or_ge k bs.length with h2 | h2
  ·have hk : k / 64 < zh bs.length := by unfold zh; omega
   obtain ⟨ad, rfl, hc⟩ := hr.lst (k / 64) (.int .u64 (zk bs (k / 64) : Nat)) (by rw [u64s, List.getElem?_map, za6 _ hk]; rfl)
   have hsm := hr.small
   have hb := zr0 (zk bs (k / 64)) ((k % 64 : Nat) : Int) (za3 _ _) (by omega) (by omega)
   have hv : ibit (zk bs (k / 64)) ((k % 64 : Nat) : Int) = zfi bs k := by
    rw [zrz _ _ (by omega), zaq]
    unfold zfi
    have h3 : 64 * (k / 64) + k % 64 = k := by omega
    have h4 : k % 64 < 64 := by omega
    simp [h3, h4]
   rw [hv] at hb
   have HB := hid hb
   have hk' : (k : Int) / 64 < (zh bs.length : Nat) := by omega
   clear hv hb hr h
   go_enter Tryz.func96, Tryz.ntmps96
   go_wp2
   go_ret
   have hB := HB.out
   rw [show ((k % 64 : Nat) : Int).toNat = k % 64 from by omega] at hB
   exact ⟨zfb hB, rfl⟩
  ·have e : zfi bs k = false := by unfold zfi; simp [ze1 bs k h2]
   rw [e]
   go_enter Tryz.func96, Tryz.ntmps96
   go_wp2
   go_ret
   exact ⟨rfl, rfl⟩
theorem zg0 (base g : Nat) (v : Value) (bs : List Bool) (w : World) (hb : BuilderAt w base g v bs) (hs : bs.length ≤ 4294967296) :
  Calls Tryz.prog 86 #[.pointer (some ⟨g, 0, none⟩)] w (zkc w bs) := by
 obtain ⟨A, c, rfl⟩ := zam hb.own
 have c0 := hb.blk.cell 0
 have c1 := hb.blk.cell 1
 simp only [List.getElem?_toArray, List.getElem?_cons_zero, List.getElem?_cons_succ] at c0 c1
 have hg := hb.blk.lt
 have hlst := zbw hb.own
 have hnw : zh bs.length ≤ 67108864 := by unfold zh; omega
 go_enter Tryz.func86, Tryz.ntmps86
 go_wp2
 go_region_held3 (fun w' => w'.cell? ⟨g, 0, none⟩ = some (.slice A (zh bs.length) c) ∧ w'.cell? ⟨g, 1, none⟩ = some (.int .i64 (bs.length : Nat))) (first | go_keep | exact ⟨k0, k1⟩)
  (first | (go_at_call 132; refine (zzl A _ c (u64s (words bs)) _ (by exact hlst) (by simp [u64s, zao]) (z15 _) hnw).mono ?_; rintro e w1 ⟨A1, c1', rfl, hl1, hn1, hb1, _⟩; have k0 := (hb1.cell (p := ⟨g, 0, none⟩) hg).trans c0; have k1 := (hb1.cell (p := ⟨g, 1, none⟩) hg).trans c1))
 go_wp2
 go_ret
 have hz := hb1.size
 refine ⟨w1.heap.size, A1, c1', rfl, zo.mk (za.new _ _ _) (hl1.alloc _) hs, hz, hn1, ?_⟩
 exact (show Below w.heap.size w w1 from ⟨hb1.os, hb1.tape, hb1.output, hb1.size, hb1.block⟩).alloc hz _
open Go.RowKit L
theorem Tryz.infoBool : (Tryz.prog.info? 4).map (fun i => (i.zero, i.size, i.bytes)) = some (some (.bool false), 1, 1) := by kernel_rfl
theorem L.zuv (x k : Nat) : bitsOf x (k + 1) = bitsOf x k ++ [x.testBit k] := by simp [bitsOf, List.range_succ]
theorem zaj (a b : List Bool) : bools (a ++ b) = bools a ++ bools b := by simp [bools]
theorem Lst.lit {w : World} {A : Option Addr} {xs : List Value} (h : Lst w A xs) (hx : 0 < xs.length) : ∃ b off, A = some ⟨b, off, none⟩ ∧ b < w.heap.size ∧ ∀ j u, xs[j]? = some u → w.cell? ⟨b, off + j, none⟩ = some u := by
 obtain ⟨ad, rfl, hc⟩ := h 0 _ (List.getElem?_eq_getElem hx)
 obtain ⟨b, off, spot⟩ := ad
 have hspot : spot = none := by simpa [Addr.add] using World.cell?_spot hc
 subst hspot
 have hb := World.block_lt_of_cell? w _ hc
 rw [zec] at hb
 exact ⟨b, off, rfl, hb, fun j u hu => by have := h.addr hu; rwa [Addr.add_lit] at this⟩
theorem Only.of_drewN {S : Nat → Prop} {w w' : World} {n : Nat} (h : Only S (w.drewN n) w') : Only S w w' := ⟨h.os, h.tape, h.output, h.size, h.block⟩
def z8w (o : Nat × Int) : Prop := o.2 < 0 ∨ 64 < o.2 ∨ o.2 < need o.1
instance (o : Nat × Int) : Decidable (z8w o) := inferInstanceAs (Decidable (_ ∨ _ ∨ _))
def zg6 (w : World) (g : Nat) (v : Value) (A : Option Addr) (xs : List Value) : Prop := Lst w A xs ∧ ∀ ad, A = some ad → xs ≠ [] → ad.block ≠ g ∧ v.ownBlock ≠ some ad.block
theorem zzm {w : World} {ad : Addr} {xs : List Value} (h : Lst w (some ad) xs) (hx : xs ≠ []) : ad.block < w.heap.size := by
 cases xs with
 | nil => exact absurd rfl hx
 | cons x l =>
   have := World.block_lt_of_cell? w _ (h.addr (i := 0) (u := x) rfl)
   rwa [zec] at this
theorem zg6.put {w w' : World} {base g : Nat} {v v' : Value} {bs' : List Bool} {A : Option Addr} {xs : List Value} (h : zg6 w g v A xs) (hat : v'.ownBlock = v.ownBlock ∨ ∃ k, v'.ownBlock = some k ∧ w.heap.size ≤ k) (ho : Only (fun i => i = g ∨ v.ownBlock = some i) w w') :
  zg6 w' g v' A xs := by
 by_cases hx : xs = []
 ·subst hx; exact ⟨Lst.nil_ _ _, fun _ _ h => absurd rfl h⟩
 ·refine ⟨h.1.only ho (fun ad e hs => ?_), fun ad e _ => ?_⟩
  ·have := h.2 ad e hx
   rcases hs with hs | hs
   ·exact this.1 hs
   ·exact this.2 hs
  ·have := h.2 ad e hx
   refine ⟨this.1, ?_⟩
   rcases hat with h1 | ⟨k, h1, h2⟩
   ·rw [h1]; exact this.2
   ·rw [h1]
    intro h3
    subst e
    have := zzm h.1 hx
    injection h3 with h3
    omega
theorem zg6.new {w w' : World} {base g : Nat} {v : Value} {bs : List Bool} {A : Option Addr} {xs : List Value} (h : Lst w' A xs) (hA : ∀ ad, A = some ad → w.heap.size ≤ ad.block) (hb : BuilderAt w base g v bs) : zg6 w' g v A xs :=
 ⟨h, fun ad e _ => by
  have h1 := hA ad e
  have h2 := hb.blk.lt
  refine ⟨by omega, fun h3 => ?_⟩
  have := (hb.own.lt _ h3).2
  omega⟩
def zdt (w : World) (g : Nat) (v : Value) (gx : Nat) (Ax : Option Addr) (cx : Nat) (ts : List Bool) : Prop := zo w gx Ax cx ts ∧ zg6 w g v Ax (u64s (words ts))
theorem zdt.row {w : World} {g : Nat} {v : Value} {gx : Nat} {Ax : Option Addr} {cx : Nat} {ts : List Bool} (h : zdt w g v gx Ax cx ts) : zo w gx Ax cx ts := h.1
theorem zdt.put {w w' : World} {base g : Nat} {v v' : Value} {bs : List Bool} {gx : Nat} {Ax : Option Addr} {cx : Nat} {ts : List Bool} (h : zdt w g v gx Ax cx ts) (hb : BuilderAt w base g v bs)
  (hat : v'.ownBlock = v.ownBlock ∨ ∃ k, v'.ownBlock = some k ∧ w.heap.size ≤ k) (ho : Only (fun i => i = g ∨ v.ownBlock = some i) w w') : zdt w' g v' gx Ax cx ts := by
 have hl := h.2.put (base := base) (bs' := bs) hat ho
 refine ⟨zo.mk (h.1.blk.only ho ?_) hl.1 h.1.small, hl⟩
 rintro (e | e)
 ·exact h.1.blk.ne_ hb.blk (by decide) e
 ·exact h.1.blk.ne_own hb.own (by decide) e
theorem zdt.new {w w' : World} {base g : Nat} {v : Value} {bs : List Bool} {gx : Nat} {Ax : Option Addr} {cx : Nat} {ts : List Bool} (h : zo w' gx Ax cx ts) (hA : ∀ ad, Ax = some ad → w.heap.size ≤ ad.block) (hb : BuilderAt w base g v bs) : zdt w' g v gx Ax cx ts :=
 ⟨h, zg6.new h.lst hA hb⟩
theorem BuilderAt.below {w w' : World} {base g : Nat} {v : Value} {bs : List Bool} (h : BuilderAt w base g v bs) (hb : Below w.heap.size w w') : BuilderAt w' base g v bs :=
 BuilderAt.mk (h.blk.below hb) (zac h.own (Only.of_below (S := fun _ => False) hb) (fun _ _ => id))
theorem BuilderAt.new_at (w : World) (base k : Nat) (hk : k = w.heap.size) : BuilderAt (w.alloc (.cells #[.slice none 0 0, .int .i64 0] 126)) base k (.slice none 0 0) [] := by
 subst hk
 exact BuilderAt.mk (za.new _ _ _) (World.ownsRow_nil _ _ _ _)
theorem zox (one : Bool) (base g : Nat) (v : Value) (bs : List Bool) (w : World) (hl : bs.length + 1 ≤ 4294967296) (hb : BuilderAt w base g v bs) (hbase : base ≤ w.heap.size) :
  Calls Tryz.prog 82 #[.pointer (some ⟨g, 0, none⟩), .bool one] w fun e w' => e = .returned (.int .i64 0) ∧ zau w w' base g v (bs ++ [one]) := by
 cases one
 ·go_enter Tryz.func82, Tryz.ntmps82
  go_wp2_with fail
  refine (zgc 0 1 base g v bs _ (by decide) (by decide) hl hb hbase).mono ?_
  rintro e w1 ⟨rfl, h⟩
  go_wp2
  go_ret
  exact ⟨rfl, h⟩
 ·go_enter Tryz.func82, Tryz.ntmps82
  go_wp2_with fail
  refine (zgc 1 1 base g v bs _ (by decide) (by decide) hl hb hbase).mono ?_
  rintro e w1 ⟨rfl, h⟩
  go_wp2
  go_ret
  exact ⟨rfl, h⟩
theorem za5 {w w' : World} {base B g : Nat} {v : Value} {bs : List Bool} (hb : BuilderAt w base g v bs) (hg : B ≤ g) (hbase : B ≤ base) (hB : B ≤ w.heap.size) (ho : Only (fun i => i = g ∨ v.ownBlock = some i) w w') : Below B w w' :=
 ho.below (fun i hi => by
  rcases hi with hi | hi
  ·omega
  ·have := (hb.own.lt _ hi).1; omega) hB
theorem L.zp5 : ∀ (l : List Nat) (b : Nat), nest (l ++ [b]) = nest l + 2 ^ (8 * l.length) * b
 | [], b => by simp [nest]
 | a :: l, b => by
   have := zp5 l b
   rw [List.cons_append, nest, nest, this, List.length_cons, show 8 * (l.length + 1) = 8 + 8 * l.length from by omega, Nat.pow_add]
   rw [Nat.mul_add, show (2 : Nat) ^ 8 = 256 from by decide, Nat.mul_assoc]; omega
theorem L.zlg (s : ByteArray) (k : Nat) : leTo s k < 2 ^ (8 * k) := by
 have h := zh6 (nats (s.data.toList.take k)) (zh8 _)
 have h2 : (nats (s.data.toList.take k)).length ≤ k := by simp [nats, List.length_take]; omega
 have h3 : (256 : Nat) ^ (nats (s.data.toList.take k)).length ≤ 256 ^ k := Nat.pow_le_pow_right (by omega) h2
 rw [Nat.pow_mul, show (2 : Nat) ^ 8 = 256 from by decide]
 unfold leTo; omega
theorem L.zkd (s : ByteArray) (k : Nat) (h : k < s.size) (hk : k < 8) : leTo s (k + 1) = leTo s k ||| (s[k].toNat * 2 ^ (8 * k) % 18446744073709551616) := by
 have e : nats (s.data.toList.take (k + 1)) = nats (s.data.toList.take k) ++ [s[k].toNat] := by
  rw [List.take_succ_eq_append_getElem (by simpa using h), nats, List.map_append]; rfl
 have hl : (nats (s.data.toList.take k)).length = k := by
  simp only [nats, List.length_map, List.length_take, Array.length_toList]
  have : s.data.size = s.size := rfl
  omega
 have hlt := zlg s k
 have hb : s[k].toNat < 256 := UInt8.toNat_lt _
 have hm : s[k].toNat * 2 ^ (8 * k) % 18446744073709551616 = s[k].toNat * 2 ^ (8 * k) := by
  apply Nat.mod_eq_of_lt
  have h1 : (2 : Nat) ^ (8 * k) ≤ 2 ^ 56 := Nat.pow_le_pow_right (by omega) (by omega)
  have h2 : (2 : Nat) ^ 56 * 256 = 18446744073709551616 := by decide
  calc s[k].toNat * 2 ^ (8 * k) ≤ s[k].toNat * 2 ^ 56 := Nat.mul_le_mul_left _ h1
   _ < 2 ^ 56 * 256 := by omega
   _ = _ := h2
 rw [hm, Nat.or_comm, nat_join (8 * k) _ _ (by simp) hlt]
 unfold leTo
 rw [e, zp5, hl, Nat.mul_comm]; omega
theorem zgs (s : ByteArray) (w : World) (hs : 8 ≤ s.size) :
  Calls Tryz.prog 141 #[.string s] w fun e w' => e = .returned (.int .u64 (leTo s 8 : Nat)) ∧ w = w' := by
 go_enter Tryz.func141, Tryz.ntmps141
 go_wp2
 go_loop [3, 5] (fun v i => ∃ k : Nat, k ≤ 8 ∧ i = .int .i64 k ∧ v = .int .u64 (leTo s k : Nat)) (fun _ i => 8 - (intOf i).toNat)
 case atStart => exact ⟨0, by omega, rfl, by simp [leTo, nats, nest]⟩
 case round =>
  obtain ⟨k, hk, rfl, rfl⟩ := hrel
  rcases Nat.lt_or_ge k 8 with hlt | hge
  ·have hsz : k < s.size := by omega
   have H := hid (zkd s k hsz hlt)
   have hb : (s[k].toNat : Int) < 256 := by have := UInt8.toNat_lt s[k]; omega
   have hl64 : leTo s k < 18446744073709551616 := Nat.lt_of_lt_of_le (zlg s k) (zcu (by omega))
   go_wp2
   go_round
   case rel =>
    refine ⟨k + 1, by omega, by go_num, ?_⟩
    rw [zgb _ _ _ hl64, H.out]
   case measure => simp [intOf]; omega
  ·obtain rfl : k = 8 := by omega
   go_wp2
   go_ret
   exact ⟨rfl, rfl⟩
theorem Tryz.sizeSB : (Tryz.prog.info? 150).map (·.size) = some 2 := by kernel_rfl
theorem Tryz.liesSB : liesAt Tryz.prog Tryz.prog.depth 150 (2 / Tryz.prog.cellsOf 150) 0 150 1 = true := by kernel_rfl
theorem Tryz.infoU8 : (Tryz.prog.info? 5).map (fun i => (i.zero, i.size, i.bytes)) = some (some (.int .u8 0), 1, 1) := by kernel_rfl
theorem zji (b : Nat) (w : World) (h0 : w.cell? ⟨b, 0, none⟩ = some (.pointer (some ⟨b, 0, none⟩))) :
  Calls Tryz.prog 155 #[.pointer (some ⟨b, 0, none⟩)] w fun e w' => e = .returned (.tuple #[]) ∧ w' = w := by
 obtain ⟨j, hj, _⟩ := Option.map_eq_some_iff.1 Tryz.sizeSB
 go_enter Tryz.func155, Tryz.ntmps155
 go_wp2
 rw [Lib.run_neq_ptr_same w _ Tryz.underlying148 hj]
 go_wp2
 go_end0
 exact ⟨rfl, rfl⟩
theorem zif (b : Nat) (w : World) (h0 : w.cell? ⟨b, 0, none⟩ = some (.pointer none)) (hsh : w.shape? b = some (150, 2)) (hfz : w.frozen? ⟨b, 0, none⟩ = false) :
  Calls Tryz.prog 155 #[.pointer (some ⟨b, 0, none⟩)] w fun e w' => e = .returned (.tuple #[]) ∧ w' = w.setCell ⟨b, 0, none⟩ (.pointer (some ⟨b, 0, none⟩)) := by
 obtain ⟨j, hj, hjs⟩ := Option.map_eq_some_iff.1 Tryz.sizeSB
 go_enter Tryz.func155, Tryz.ntmps155
 go_wp2
 rw [Lib.run_to_unsafe w ⟨b, 0, none⟩ Tryz.underlying148 Tryz.underlying233 hj (by rw [hjs]; decide) hsh (Nat.zero_lt_succ 1)]
 simp only [Result.andThen]
 rw [Oper.upon_value]
 go_wp2
 rw [run_callFunc_extern Tryz.func187 (by kernel_rfl) (by kernel_rfl) (by kernel_rfl) (e := Extern.AbiNoEscape.same) (by kernel_rfl)]
 rw [Lib.run_noEscape]
 simp only [Result.andThen]
 rw [Oper.upon_value]
 go_wp2
 rw [Lib.run_from_unsafe w ⟨b, 0, none⟩ Tryz.underlying233 Tryz.underlying148 hj hsh Tryz.liesSB]
 simp only [Result.andThen]
 rw [Oper.upon_value]
 go_wp2
 go_end0
 exact ⟨rfl, rfl⟩
theorem z16 (B b : Nat) (bs : List Value) (w : World) (h : Lib.IsBuilder 150 5 B b bs w) :
  Calls Tryz.prog 155 #[.pointer (some ⟨b, 0, none⟩)] w fun e w' => e = .returned (.tuple #[]) ∧ Lib.BuilderAt 150 5 B b (.pointer (some ⟨b, 0, none⟩)) bs w' ∧ Below B w w' := by
 rcases h with h | h
 ·refine (zif b w h.cell0 h.shape h.frozen0).mono ?_
  rintro e w' ⟨rfl, rfl⟩
  exact ⟨rfl, h.used _, (Below.refl B w).setCell (p := ⟨b, 0, none⟩) h.1 _⟩
 ·refine (zji b w h.cell0).mono ?_
  rintro e w' ⟨rfl, rfl⟩
  exact ⟨rfl, h, Below.refl B _⟩
theorem z5x (B b : Nat) (bs : List Value) (c : Int) (w : World) (h : Lib.IsBuilder 150 5 B b bs w) (hlen : bs.length + 1 ≤ 140737488355328) (hBw : B ≤ w.heap.size) :
  Calls Tryz.prog 123 #[.pointer (some ⟨b, 0, none⟩), .int .u8 c] w fun e w' => e = .returned .nilIface ∧ Lib.IsBuilder 150 5 B b (bs ++ [.int .u8 c]) w' ∧ Below B w w' := by
 obtain ⟨i0, hi, hz0, hz1, hz2⟩ := info_parts Tryz.infoU8
 go_enter Tryz.func123, Tryz.ntmps123
 go_wp2_with fail
 refine (z16 B b bs _ h).mono ?_
 rintro e w1 ⟨rfl, ⟨hB, v, hbk, hown, hne⟩, hb1⟩
 have hk : za w1 b 150 #[.pointer (some ⟨b, 0, none⟩), v] := hbk
 have c1 : w1.cell? ⟨b, 1, none⟩ = some v := hk.cell 1
 have hlt := hk.lt
 have hz := hb1.size
 go_wp2_with (at_builtin
              go_must (refine zaa _ rfl (.tmp 11) (.tmp 13) _ rfl B 5 i0 _ 1 Tryz.underlying117 hi hz0 hz1 hz2 rfl v bs.length bs rfl (hown.alloc _) (some ⟨w1.heap.size, 0, none⟩) 1 1 [.int .u8 c] rfl (zc3 _ _ _ _ rfl) rfl ?h1 ?h63 ?hby ?hbs _ rfl ?_)
              go_must (case h1 => simp [Value.oneCell'])
              go_must (case h63 => unfold maxLen; omega)
              go_must (case hby => omega)
              go_must (case hbs => simp; omega)
              intro A2 c2 w2 hown2 hgr2 hat2
              have hk2 : za w2 b 150 #[.pointer (some ⟨b, 0, none⟩), v] := (hk.alloc _).kept (hgr2.block b (by simp; omega) (fun e => hne e.symm))
              have d1 : w2.cell? ⟨b, 1, none⟩ = some v := hk2.cell 1
              have f1 := hk2.frozen 1)
 go_ret
 have hne2 : (Value.slice A2 (bs.length + 1) c2).ownBlock ≠ some b := hk2.ne_own hown2 (by decide)
 refine ⟨rfl, .inr ⟨hB, _, (hk2.put 1 _), ?_, hne2⟩, (hb1.trans (((Below.refl B w1).alloc (by omega) _).grown hgr2 (by simp; omega) (fun k hk => (hown.lt k hk).1))).setCell hB _⟩
 have := zac hown2 ((Only.refl (fun i => i = b) w2).setCell (p := ⟨b, 1, none⟩) (.inl rfl) (Value.slice A2 (bs.length + 1) c2)) (fun k hk e => hne2 (by rw [hk, e]))
 simpa using this
theorem zsl (B b : Nat) (l : List UInt8) (v : Nat) (w : World) (h : Lib.IsBuilder 150 5 B b (Lib.byteCells l) w) (hlen : l.length ≤ 140737488300000) (hBw : B ≤ w.heap.size) (hv : v < 18446744073709551616) :
  Calls Tryz.prog 100 #[.pointer (some ⟨b, 0, none⟩), .int .u64 (v : Nat)] w fun e w' => e = .returned (.tuple #[]) ∧ Lib.IsBuilder 150 5 B b (Lib.byteCells (l ++ leB v 8)) w' ∧ Below B w w' := by
 go_enter Tryz.func100, Tryz.ntmps100
 go_wp2_with fail
 go_loopw [1, 4] (fun x i wr => ∃ k : Nat, k ≤ 8 ∧ i = .int .i64 k ∧ x = .int .u64 (v / 256 ^ k : Nat) ∧ Lib.IsBuilder 150 5 B b (Lib.byteCells (l ++ leB v k)) wr ∧ Below B w wr) (fun _ i _ => 8 - (intOf i).toNat)
 case atStart => exact ⟨0, by omega, rfl, by simp, by simpa [leB] using h, Below.refl _ _⟩
 case round =>
  obtain ⟨k, hk, rfl, rfl, hb, hB⟩ := hrel
  have hsz := hB.size
  rcases Nat.lt_or_ge k 8 with hlt | hge
  ·have hlen2 : (Lib.byteCells (l ++ leB v k)).length + 1 ≤ 140737488355328 := by rw [Lib.byteCells_length, List.length_append, ze]; omega
   have H := hid (show Lib.byteCells (l ++ leB v k) ++ [.int .u8 ((v / 256 ^ k : Nat) % 256 : Int)] = Lib.byteCells (l ++ leB v (k + 1)) by
    rw [zfr, ← List.append_assoc, byteCells_append _ [UInt8.ofNat _], byteCells_one]; simp)
   have hx : v / 256 ^ k < 18446744073709551616 := Nat.lt_of_le_of_lt (Nat.div_le_self _ _) hv
   have H2 := hid (show ((v / 256 ^ k : Nat) : Int) / 256 = ((v / 256 ^ (k + 1) : Nat) : Int) by rw [Nat.pow_succ, ← Nat.div_div_eq_div_mul]; rfl)
   generalize hy : v / 256 ^ k = y at *
   go_wp2_with fail
   refine (z5x B b _ ((y : Int) % 256) _ hb hlen2 (by omega)).mono ?_
   rintro e w1 ⟨rfl, hb1, hB1⟩
   rw [H.out] at hb1
   go_wp2
   go_roundw
   case rel => exact ⟨k + 1, by omega, by go_num, by rw [H2.out], hb1, hB.trans hB1⟩
   case measure => simp [intOf]; omega
  ·obtain rfl : k = 8 := by omega
   go_wp2
   go_end0
   exact ⟨rfl, hb, hB⟩
theorem zp6 (n : Nat) (w : World) (hn : n ≤ 4294967296) :
  Calls Tryz.prog 142 #[.int .i64 (n : Nat)] w fun e w' => e = .returned (.int .i64 (zh n : Nat)) ∧ w = w' := by
 go_enter Tryz.func142, Tryz.ntmps142
 go_wp2
 go_ret
 exact ⟨zcn (by unfold zh; omega), rfl⟩
theorem znl (g : Nat) (A : Option Addr) (c : Nat) (bs : List Bool) (w : World) (hr : zo w g A c bs) :
  Calls Tryz.prog 38 #[.pointer (some ⟨g, 0, none⟩)] w fun e w' => e = .returned (.string ⟨(zy bs).toArray⟩) ∧ Below w.heap.size w w' := by
 obtain ⟨c0, c1⟩ := hr.cells
 have hg := hr.blk.lt
 have hsm := hr.small
 have hnw : zh bs.length ≤ 67108864 := by unfold zh; omega
 have hlst := hr.lst
 have hsb : Lib.IsBuilder 150 5 w.heap.size w.heap.size (Lib.byteCells []) (w.alloc (.cells #[.pointer none, .slice none 0 0] 150)) :=
  .inl ⟨Nat.le_refl _, _, za.new _ _ _, World.ownsRow_nil _ _ _ _, by simp [Value.ownBlock]⟩
 go_enter Tryz.func38, Tryz.ntmps38
 go_wp2_with fail
 refine (zsl w.heap.size w.heap.size [] bs.length _ (by exact hsb) (by simp) (by simp) (by omega)).mono ?_
 rintro e w1 ⟨rfl, hb1, hB1⟩
 have hB1' : Below w.heap.size w w1 := ((Below.refl _ _).alloc (Nat.le_refl _) _).trans hB1
 have d0 := (hB1'.cell (p := ⟨g, 0, none⟩) hg).trans c0
 have d1 := (hB1'.cell (p := ⟨g, 1, none⟩) hg).trans c1
 go_wp2_with fail
 go_loopw [17] (fun i wr => ∃ k : Nat, k ≤ zh bs.length ∧ i = .int .i64 k ∧ Lib.IsBuilder 150 5 w.heap.size w.heap.size (Lib.byteCells (zbe bs k)) wr ∧ Below w.heap.size w wr) (fun i _ => zh bs.length - (intOf i).toNat)
 case atStart => exact ⟨0, by omega, rfl, by simpa [zbe] using hb1, hB1'⟩
 case round =>
  obtain ⟨k, hk, rfl, hb, hB⟩ := hrel
  have hsz := hB.size
  rcases Nat.lt_or_ge k (zh bs.length) with hlt | hge
  ·have q0 : (u64s (words bs))[k]? = some (.int .u64 (zk bs k : Nat)) := by rw [u64s, List.getElem?_map, za6 _ hlt]; rfl
   obtain ⟨ab, ao, rfl, had, hcl⟩ := hlst.lit (by have := (List.getElem?_eq_some_iff.1 q0).1; omega)
   have wc := (hB.cell (p := ⟨ab, ao + k, none⟩) had).trans (hcl _ _ q0)
   have hki : (k : Int) < (zh bs.length : Int) := by omega
   have hk0 : (0 : Int) ≤ (k : Int) := by omega
   have H := hid (zhi bs k hlt)
   have hlen := zgo bs k
   clear q0 hcl hsb
   go_wp2_with fail
   refine (zsl w.heap.size w.heap.size (zbe bs k) (zk bs k) _ (by exact hb) (by omega) (by exact hsz) (za3 _ _)).mono ?_
   rintro e w2 ⟨rfl, hb2, hB2⟩
   rw [← H.out] at hb2
   go_wp2
   go_roundw
   case rel => exact ⟨k + 1, by omega, by go_num, hb2, hB.trans hB2⟩
   case measure => simp [intOf]; omega
  ·obtain rfl : k = zh bs.length := by omega
   go_wp2_with fail
   refine (Tryz.Builder_String_any w.heap.size w.heap.size (zbe bs (zh bs.length)) _ (by exact hb) hsz).mono ?_
   rintro e w2 ⟨rfl, hB2⟩
   go_wp2
   go_ret
   exact ⟨by rw [zh7]; rfl, hB.trans hB2⟩
theorem znm (g : Nat) (A : Option Addr) (c : Nat) (bs : List Bool) (p n : Nat) (w : World) (hr : zo w g A c bs) (hn : n ≤ 64) (h : p + n ≤ bs.length) :
  Calls Tryz.prog 172 #[.pointer (some ⟨g, 0, none⟩), .int .i64 (p : Nat), .int .i64 (n : Nat)] w fun e w' => e = .returned (.int .u64 (fld bs p n : Nat)) ∧ ∃ m, w' = w.drewN m := by
 obtain ⟨c0, c1⟩ := hr.cells
 have hsm := hr.small
 rcases Nat.eq_zero_or_pos n with h0 | h0
 ·subst h0
  go_enter Tryz.func172, Tryz.ntmps172
  go_wp2
  go_ret
  exact ⟨by rw [zr2]; rfl, zhn _⟩
 ·have hi : p / 64 < zh bs.length := by unfold zh; omega
  have q0 : (u64s (words bs))[p / 64]? = some (.int .u64 (zk bs (p / 64) : Nat)) := by rw [u64s, List.getElem?_map, za6 _ hi]; rfl
  have hlst := hr.lst
  obtain ⟨ab, ao, rfl, had, hcl⟩ := hlst.lit (by have := (List.getElem?_eq_some_iff.1 q0).1; omega)
  have wc := hcl _ _ q0
  have hn0 : ((n : Int) == 0) = false := by rw [beq_eq_false_iff_ne]; omega
  have hi2 : (p : Int) / 64 < (zh bs.length : Int) := by omega
  rcases Nat.lt_or_ge 64 (p % 64 + n) with h1 | h1
  ·have hi3 : p / 64 + 1 < zh bs.length := by unfold zh; omega
   have q1 : (u64s (words bs))[p / 64 + 1]? = some (.int .u64 (zk bs (p / 64 + 1) : Nat)) := by rw [u64s, List.getElem?_map, za6 _ hi3]; rfl
   have wc1 := hcl _ _ q1
   have hi4 : (p : Int) / 64 + 1 < (zh bs.length : Int) := by omega
   have H := hid (zxc bs p n hn h1)
   have ht : 64 < (p : Int) % 64 + (n : Int) := by omega
   clear hr hlst hcl q0 q1 hi hi3 h1
   go_enter Tryz.func172, Tryz.ntmps172
   go_wp2_with fail
   refine (zeb (zk bs (p / 64)) _ _ _ (za3 _ _)).mono ?_
   rintro e w' ⟨rfl, m, rfl⟩
   go_wp2_with fail
   refine (zeb (zk bs (p / 64 + 1)) _ _ _ (za3 _ _)).mono ?_
   rintro e w' ⟨rfl, m2, rfl⟩
   go_wp2
   go_ret
   refine ⟨zcn ?_, _, rfl⟩
   rw [zgb _ _ _ (zpv _ _ _ (za3 _ _)), ← H.out, show (p : Int) % 64 + (n : Int) - 64 = ((p % 64 + n - 64 : Nat) : Int) from by omega]
   rfl
  ·have H := hid (z1m bs p n h0 h1)
   have ht : (p : Int) % 64 + (n : Int) ≤ 64 := by omega
   clear hr hlst hcl q0 hi h1
   go_enter Tryz.func172, Tryz.ntmps172
   go_wp2_with fail
   refine (zeb (zk bs (p / 64)) _ _ _ (za3 _ _)).mono ?_
   rintro e w' ⟨rfl, m, rfl⟩
   go_wp2
   go_ret
   refine ⟨zcn ?_, _, rfl⟩
   rw [← H.out]; rfl
theorem zg7 (g : Nat) (A : Option Addr) (c : Nat) (bs : List Bool) (p n : Int) (w : World) (hr : zo w g A c bs) (hn : 0 ≤ n) (hn' : n ≤ 64) (h : p < 0 ∨ bs.length - n < p) :
  Calls Tryz.prog 138 #[.pointer (some ⟨g, 0, none⟩), .int .i64 p, .int .i64 n] w fun e w' => e = .returned (.tuple #[.int .u64 0, .int .i64 2]) ∧ w = w' := by
 obtain ⟨c0, c1⟩ := hr.cells
 have hsm := hr.small
 rcases Int.lt_or_le p 0 with h1 | h1
 ·go_enter Tryz.func138, Tryz.ntmps138
  go_wp2
  go_ret2
  exact ⟨rfl, rfl⟩
 ·have h2 : (bs.length : Int) - n < p := by omega
  clear h
  go_enter Tryz.func138, Tryz.ntmps138
  go_wp2
  go_ret2
  exact ⟨rfl, rfl⟩
theorem zgd (g : Nat) (A : Option Addr) (c : Nat) (bs : List Bool) (p n : Nat) (w : World) (hr : zo w g A c bs) (hn : n ≤ 64) (h : p + n ≤ bs.length) :
  Calls Tryz.prog 138 #[.pointer (some ⟨g, 0, none⟩), .int .i64 (p : Nat), .int .i64 (n : Nat)] w fun e w' => e = .returned (.tuple #[.int .u64 (fld bs p n : Nat), .int .i64 0]) ∧ ∃ m, w' = w.drewN m := by
 obtain ⟨c0, c1⟩ := hr.cells
 have hsm := hr.small
 have h2 : (p : Int) ≤ (bs.length : Int) - (n : Int) := by omega
 have h3 : (n : Int) ≤ 64 := by omega
 go_enter Tryz.func138, Tryz.ntmps138
 go_wp2_with (go_at_call 172; refine (znm g A c bs p n _ hr hn h).mono ?_; rintro e w' ⟨rfl, m, rfl⟩)
 go_ret2
 exact ⟨rfl, _, rfl⟩
theorem zdl (g : Nat) (A : Option Addr) (c : Nat) (bs : List Bool) (i : Int) (w : World) (hr : zo w g A c bs) :
  Calls Tryz.prog 136 #[.pointer (some ⟨g, 0, none⟩), .int .i64 i] w fun e w' => e = .returned (.int .u64 (zd1 bs i : Nat)) ∧ w = w' := by
 obtain ⟨c0, c1⟩ := hr.cells
 have hsm := hr.small
 rcases Int.lt_or_le i 0 with h1 | h1
 ·rw [show zd1 bs i = 0 from by unfold zd1; rw [if_pos h1]]
  go_enter Tryz.func136, Tryz.ntmps136
  go_wp2
  go_ret
  exact ⟨rfl, rfl⟩
 ·obtain ⟨k, rfl⟩ := Int.eq_ofNat_of_zero_le h1
  rw [zd8]
  rcases Nat.lt_or_ge k (zh bs.length) with h2 | h2
  ·have q0 : (u64s (words bs))[k]? = some (.int .u64 (zk bs k : Nat)) := by rw [u64s, List.getElem?_map, za6 _ h2]; rfl
   have hlst := hr.lst
   obtain ⟨ab, ao, rfl, had, hcl⟩ := hlst.lit (by have := (List.getElem?_eq_some_iff.1 q0).1; omega)
   have wc := hcl _ _ q0
   have h3 : (k : Int) < (zh bs.length : Int) := by omega
   clear hcl q0 hlst hr
   go_enter Tryz.func136, Tryz.ntmps136
   go_wp2
   go_ret
   exact ⟨rfl, rfl⟩
  ·have e : zk bs k = 0 := by
    unfold zk
    rw [List.drop_eq_nil_of_le (by unfold zh at h2; omega)]; rfl
   rw [e]
   have h3 : (zh bs.length : Int) ≤ (k : Int) := by omega
   go_enter Tryz.func136, Tryz.ntmps136
   go_wp2
   go_ret
   exact ⟨rfl, rfl⟩
def zfj (n : Nat) (a : Int) : Nat := (min (max a 0) n).toNat
def zgt (n : Nat) (a b : Int) : Nat := (min (max b (zfj n a : Nat)) n).toNat
theorem z7x (n : Nat) (a b : Int) : zfj n a ≤ zgt n a b ∧ zgt n a b ≤ n := by unfold zgt zfj; omega
theorem z18 (g : Nat) (A : Option Addr) (c : Nat) (bs : List Bool) (a b : Int) (w : World) (hr : zo w g A c bs) :
  Calls Tryz.prog 139 #[.pointer (some ⟨g, 0, none⟩), .int .i64 a, .int .i64 b] w (zkc w ((bs.drop (zfj bs.length a)).take (zgt bs.length a b - zfj bs.length a))) := by
 obtain ⟨c0, c1⟩ := hr.cells
 have hsm := hr.small
 have hcb := z7x bs.length a b
 have H1 : min (max a 0) (bs.length : Int) = (zfj bs.length a : Nat) := by unfold zfj; omega
 have H2 : min (max b (zfj bs.length a : Nat)) (bs.length : Int) = (zgt bs.length a b : Nat) := by unfold zgt; omega
 have hb0 := BuilderAt.new_at w w.heap.size w.heap.size rfl
 generalize zgt bs.length a b = hi at *
 generalize zfj bs.length a = lo at *
 go_enter Tryz.func139, Tryz.ntmps139
 go_wp2_with fail
 have HH1 := hid H1
 have HH2 := hid H2
 clear H1 H2
 go_loopw [1, 8] (fun fr t8 wr => ∃ (f : Nat) (v : Value), lo ≤ f ∧ f ≤ hi ∧ fr = .int .i64 f ∧ BuilderAt wr w.heap.size w.heap.size v ((bs.drop lo).take (f - lo)) ∧ Below w.heap.size w wr) (fun fr _ _ => hi - (intOf fr).toNat)
 case atStart => exact ⟨lo, _, Nat.le_refl _, hcb.1, rfl, by simpa using hb0, (Below.refl _ _).alloc (Nat.le_refl _) _⟩
 case round =>
  obtain ⟨f, v, hf1, hf2, rfl, hb, hB⟩ := hrel
  have hsz := hB.size
  clear hb0
  rcases Nat.lt_or_ge f hi with hlt | hge
  ·obtain ⟨k, hk⟩ : ∃ k, k = min 64 (hi - f) := ⟨_, rfl⟩
   have H3 : min 64 ((hi : Int) - (f : Int)) = (k : Nat) := by omega
   have hlti : (f : Int) < (hi : Int) := by omega
   have hk1 : k ≤ 64 := by omega
   have hk2 : 0 < k := by omega
   have hk3 : f + k ≤ hi := by omega
   have hr2 : zo wr g A c bs := hr.below hB
   have hlen : ((bs.drop lo).take (f - lo)).length ≤ 4294967200 ∨ True := .inr trivial
   have H := hid (show (bs.drop lo).take (f - lo) ++ bitsOf (fld bs f k) k = (bs.drop lo).take (f + k - lo) by
    rw [zgq bs f k (by omega), show f + k - lo = (f - lo) + k from by omega, List.take_add, List.drop_drop, show lo + (f - lo) = f from by omega])
   have hl2 : ((bs.drop lo).take (f - lo)).length + k ≤ 4294967296 := by rw [List.length_take, List.length_drop]; omega
   clear hk hlen
   go_wp2_with fail
   refine (znm g A c bs f k _ hr2 hk1 (by omega)).mono ?_
   rintro e w' ⟨rfl, m, rfl⟩
   go_wp2_with fail
   refine (zgc (fld bs f k) k w.heap.size w.heap.size v ((bs.drop lo).take (f - lo)) _ (zes _ _ _) hk1 hl2 (by exact hb) (by exact hsz)).mono ?_
   rintro e w2 ⟨rfl, v2, hb2, hat2, ho2⟩
   rw [H.out] at hb2
   have hB2 := hB.trans (za5 hb (Nat.le_refl _) (Nat.le_refl _) hsz ho2.of_drewN)
   go_wp2
   go_roundw
   case rel => exact ⟨f + k, v2, by omega, hk3, by go_num, hb2, hB2⟩
   case measure => simp [intOf]; omega
  ·obtain rfl : f = hi := by omega
   go_wp2_with fail
   refine (zg0 _ _ _ _ _ hb (by rw [List.length_take, List.length_drop]; omega)).mono ?_
   rintro e w2 ⟨g2, A2, c2, rfl, hr2, h1, h2, hB2⟩
   go_wp2
   go_ret
   exact ⟨g2, A2, c2, rfl, hr2, by omega, fun ad h => by have := h2 ad h; omega, hB.trans (hB2.mono hsz)⟩
theorem z7y (a i : Nat) (ha : a < 18446744073709551616) (hi : i < 64) : bits BinOp.or IntKind.u64 (a : Int) (IntKind.u64.wrap (2 ^ i)) = ((a ||| 2 ^ i : Nat) : Int) := by
 have h := zry hi
 have e : IntKind.u64.wrap (2 ^ i) = ((2 ^ i : Nat) : Int) := by
  rw [IntKind.wrap_u64, show ((2 : Int) ^ i) = ((2 ^ i : Nat) : Int) from by simp]
  generalize (2 : Nat) ^ i = q at h ⊢
  omega
 rw [e]; exact u64_or_nat _ _ ha h
theorem zsm (A : Option Addr) (c : Nat) (bs : List Bool) (p n : Nat) (w : World) (hl : Lst w A (bools bs)) (hn : n ≤ 64) (h : p + n ≤ bs.length) (hs : bs.length ≤ 4294967296) :
  Calls Tryz.prog 42 #[.slice A bs.length c, .int .i64 (p : Nat), .int .i64 (n : Nat)] w fun e w' => e = .returned (.int .u64 (fld bs p n : Nat)) ∧ w = w' := by
 go_enter Tryz.func42, Tryz.ntmps42
 go_wp2_with fail
 go_loop [7, 8] (fun v i => ∃ k : Nat, k ≤ n ∧ i = .int .i64 k ∧ v = .int .u64 (fld bs p k : Nat)) (fun _ i => n - (intOf i).toNat)
 case atStart => exact ⟨0, by omega, rfl, by rw [zr2]; rfl⟩
 case round =>
  obtain ⟨k, hk, rfl, rfl⟩ := hrel
  rcases Nat.lt_or_ge k n with hlt | hge
  ·have q0 := zkb bs (i := p + k) (by omega)
   obtain ⟨ab, ao, rfl, had, hcl⟩ := hl.lit (by rw [zcx]; omega)
   have wc := hcl _ _ q0
   have hki : (p : Int) + (k : Int) < (bs.length : Int) := by omega
   have hlti : (k : Int) < (n : Int) := by omega
   have hs2 : (p : Int) + (k : Int) ≤ 4294967296 := by omega
   have H := hid (z1l bs p k)
   have hf := fld_lt64 bs p k (by omega)
   have hk64 : k < 64 := by omega
   clear hcl q0
   cases hb : zb bs (p + k)
   ·rw [hb] at wc
    have H' := hid (show fld bs p (k + 1) = fld bs p k by rw [H.out, hb]; rfl)
    have Hb := hid hb
    clear hb
    go_wp2
    go_round
    case rel => exact ⟨k + 1, by omega, by go_num, by rw [H'.out]⟩
    case measure => simp [intOf]; omega
   ·rw [hb] at wc
    have H' := hid (show fld bs p (k + 1) = fld bs p k ||| 2 ^ k by rw [H.out, hb]; rfl)
    have Hb := hid hb
    clear hb
    go_wp2
    go_round
    case rel => exact ⟨k + 1, by omega, by go_num, by rw [H'.out, ← z7y _ _ hf hk64]⟩
    case measure => simp [intOf]; omega
  ·obtain rfl : k = n := by omega
   go_wp2
   go_ret
   exact ⟨rfl, rfl⟩
theorem zuw (A : Option Addr) (c : Nat) (bs : List Bool) (i : Int) (w : World) (hl : Lst w A (bools bs)) (hs : bs.length ≤ 4294967296) :
  Calls Tryz.prog 108 #[.slice A bs.length c, .int .i64 i] w fun e w' => e = .returned (.int .u64 (zd1 bs i : Nat)) ∧ w = w' := by
 rcases Int.lt_or_le i 0 with h1 | h1
 ·rw [show zd1 bs i = 0 from by unfold zd1; rw [if_pos h1]]
  go_enter Tryz.func108, Tryz.ntmps108
  go_wp2
  go_ret
  exact ⟨rfl, rfl⟩
 ·obtain ⟨k, rfl⟩ := Int.eq_ofNat_of_zero_le h1
  rw [zd8]
  rcases Nat.lt_or_ge (bs.length / 64) k with h2 | h2
  ·have e : zk bs k = 0 := by
    unfold zk
    rw [List.drop_eq_nil_of_le (by omega)]; rfl
   rw [e]
   have h3 : (bs.length : Int) / 64 < (k : Int) := by omega
   go_enter Tryz.func108, Tryz.ntmps108
   go_wp2
   go_ret
   exact ⟨rfl, rfl⟩
  ·have h3 : (k : Int) ≤ (bs.length : Int) / 64 := by omega
   obtain ⟨n, hn⟩ : ∃ n, n = min 64 (bs.length - 64 * k) := ⟨_, rfl⟩
   have H3 : min 64 ((bs.length : Int) - 64 * (k : Int)) = (n : Nat) := by omega
   have H4 := hid (show fld bs (64 * k) n = zk bs k by
    apply Nat.eq_of_testBit_eq; intro j
    rw [fld_testBit, zaq]
    by_cases hj : j < n
    ·have : j < 64 := by omega
     simp [hj, this]
    ·by_cases h64 : j < 64
     ·rw [ze1 bs (64 * k + j) (by omega)]; simp
     ·simp [hj, h64])
   have hn1 : n ≤ 64 := by omega
   have hn2 : 64 * k + n ≤ bs.length := by omega
   clear hn
   go_enter Tryz.func108, Tryz.ntmps108
   go_wp2_with fail
   refine (zsm A c bs (64 * k) n _ hl hn1 hn2 hs).mono ?_
   rintro e w' ⟨rfl, rfl⟩
   go_wp2
   go_ret
   exact ⟨by rw [← H4.out]; rfl, rfl⟩
theorem zdf {w : World} {base : Nat} {A : Option Addr} {c : Nat} {l : List UInt8} (hown : w.ownsRow base 5 1 (.slice A l.length c) l.length (Lib.byteCells l)) :
  (convert 117 9 (.slice A l.length c)).run Tryz.prog w = .ok (.string ⟨l.toArray⟩) w := by
 rcases Nat.eq_zero_or_pos l.length with h0 | h0
 ·have hl := List.eq_nil_of_length_eq_zero h0
  subst hl
  rcases A with _ | ad
  ·exact run_convert_bytes_nil w 117 5 Tryz.underlying117 Tryz.underlying5 _ _ 9 Tryz.underlying9
  ·rcases hown.2 with ⟨h, _⟩ | ⟨g, cap, cur, h, _⟩
   ·simp at h
   ·simp only [Value.slice.injEq, Option.some.injEq] at h
    rw [h.1]
    exact run_convert_bytes_arg w 117 5 Tryz.underlying117 Tryz.underlying5 g 0 0 c [] rfl (fun i hi => absurd hi (by omega)) 9 Tryz.underlying9
 ·obtain ⟨ab, ao, rfl, _, hcl⟩ := (zbw hown).lit (by rw [Lib.byteCells_length]; exact h0)
  have := run_convert_bytes_arg w 117 5 Tryz.underlying117 Tryz.underlying5 ab ao l.length c (l.map fun b => (b.toNat : Int)) (by simp) (fun i hi => by
   rw [hcl i (.int .u8 (l[i].toNat : Nat)) (by simp [Lib.byteCells, hi])]
   simp [hi]) 9 Tryz.underlying9
  rw [this]
  congr 2
  apply ByteArray.ext
  apply Array.toList_inj.1
  rw [strOfNums_data, List.map_map]
  have hid : ((fun n : Int => UInt8.ofNat n.toNat) ∘ fun b : UInt8 => (b.toNat : Int)) = id := by funext b; simp
  rw [hid, List.map_id]
theorem zke (v : Nat) (w : World) (hv : v < 18446744073709551616) :
  Calls Tryz.prog 107 #[.int .u64 (v : Nat)] w fun e w' => e = .returned (.string ⟨(leB v 8).toArray⟩) ∧ Below w.heap.size w w' := by
 obtain ⟨i0, hi, hz0, hz1, hz2⟩ := info_parts Tryz.infoU8
 go_enter Tryz.func107, Tryz.ntmps107
 go_wp2_with fail
 go_loopw [3, 4] (fun out i wr => ∃ (k : Nat) (A : Option Addr) (c : Nat), k ≤ 8 ∧ i = .int .i64 k ∧ out = .slice A k c ∧ wr.ownsRow w.heap.size 5 1 (.slice A k c) k (Lib.byteCells (leB v k)) ∧ Below w.heap.size w wr) (fun _ i _ => 8 - (intOf i).toNat)
 case atStart => exact ⟨0, none, 0, by omega, rfl, rfl, World.ownsRow_nil _ _ _ _, Below.refl _ _⟩
 case round =>
  obtain ⟨k, A, c, hk, rfl, rfl, hown, hB⟩ := hrel
  have hsz := hB.size
  rcases Nat.lt_or_ge k 8 with hlt | hge
  ·have hlti : (k : Int) < 8 := by omega
   have H1 := hid (show Lib.byteCells (leB v k) ++ [.int .u8 ((v : Int) / 2 ^ (8 * k) % 256)] = Lib.byteCells (leB v (k + 1)) by
    rw [zfr, byteCells_append, byteCells_one, show (256 : Nat) ^ k = 2 ^ (8 * k) from by rw [Nat.pow_mul]]; simp)
   go_wp2_with (at_builtin
                go_must (refine zaa _ rfl (.tmp 9) (.tmp 15) _ rfl w.heap.size 5 i0 _ 1 Tryz.underlying117 hi hz0 hz1 hz2 rfl (.slice A k c) k (Lib.byteCells (leB v k)) rfl ?hown (some ⟨wr.heap.size, 0, none⟩) 1 1 [.int .u8 ((v : Int) / 2 ^ (8 * k) % 256)] rfl ?hls rfl ?h1 ?h63 ?hby ?hbs _ rfl ?_)
                go_must (case hown => exact hown.alloc _)
                go_must (case hls => exact zc3 _ _ _ _ rfl)
                go_must (case h1 => simp [Value.oneCell'])
                go_must (case h63 => simp only [maxLen]; omega)
                go_must (case hby => omega)
                go_must (case hbs => simp; omega)
                intro A2 c2 w2 hown2 hgr2 hat2)
   have hB2 : Below w.heap.size w w2 := (hB.alloc hsz _).grown hgr2 (by simp; omega) (fun j hj => (hown.lt j hj).1)
   rw [H1.out] at hown2
   clear hgr2 hat2
   go_roundw
   case rel => exact ⟨k + 1, A2, c2, by omega, by go_num, rfl, hown2, hB2⟩
   case measure => simp [intOf]; omega
  ·obtain rfl : k = 8 := by omega
   have hcv : (convert 117 9 (.slice A 8 c)).run Tryz.prog wr = .ok (.string ⟨(leB v 8).toArray⟩) wr := by
    have := zdf (l := leB v 8) (by rw [ze]; exact hown)
    rwa [ze] at this
   go_wp2
   go_ret
   exact ⟨rfl, hB⟩
theorem zkf (A : Option Addr) (c : Nat) (bs : List Bool) (w : World) (hl : Lst w A (bools bs)) (hs : bs.length ≤ 1000000) :
  Calls Tryz.prog 49 #[.slice A bs.length c] w fun e w' => e = .returned (.string ⟨(zy bs).toArray⟩) ∧ Below w.heap.size w w' := by
 have hnw : zh bs.length ≤ 20000 := by unfold zh; omega
 go_enter Tryz.func49, Tryz.ntmps49
 go_wp2_with fail
 refine (zke bs.length _ (by omega)).mono ?_
 rintro e w1 ⟨rfl, hB1⟩
 go_wp2_with fail
 go_loopw [3, 4] (fun s i wr => ∃ k : Nat, k ≤ zh bs.length ∧ i = .int .i64 k ∧ s = .string ⟨(zbe bs k).toArray⟩ ∧ Below w.heap.size w wr) (fun _ i _ => zh bs.length - (intOf i).toNat)
 case atStart => exact ⟨0, by omega, rfl, by simp [zbe], hB1⟩
 case round =>
  obtain ⟨k, hk, rfl, rfl, hB⟩ := hrel
  have hsz := hB.size
  have hl2 : Lst wr A (bools bs) := hl.below hB
  rcases Nat.lt_or_ge k (zh bs.length) with hlt | hge
  ·have hki : 64 * (k : Int) < (bs.length : Int) := by unfold zh at hlt; omega
   have H := hid (zhi bs k hlt)
   have hlen := zgo bs k
   have hlen1 : ((zbe bs k).length : Int) ≤ 8388608 := by omega
   have hlen2 : ((leB (zk bs k) 8).length : Int) ≤ 8388608 := by rw [ze]; omega
   go_wp2_with fail
   refine (zuw A c bs (k : Nat) _ hl2 (by omega)).mono ?_
   rw [zd8]
   rintro e w' ⟨rfl, rfl⟩
   go_wp2_with fail
   refine (zke (zk bs k) _ (za3 _ _)).mono ?_
   rintro e w2 ⟨rfl, hB2⟩
   have hB3 := hB.trans (hB2.mono hsz)
   have hadd := run_string_add_lists (P := Tryz.prog) w2 (zbe bs k) (leB (zk bs k) 8) hlen1 hlen2
   go_wp2
   go_roundw
   case rel => exact ⟨k + 1, by omega, by go_num, by rw [H.out], hB3⟩
   case measure => simp [intOf]; omega
  ·obtain rfl : k = zh bs.length := by omega
   have hki : (bs.length : Int) ≤ 64 * (zh bs.length : Int) := by unfold zh; omega
   go_wp2
   go_ret
   exact ⟨by rw [zh7]; rfl, hB⟩
end Go.Proofs.YtgpbpgpolpakjaaGreatDoor
