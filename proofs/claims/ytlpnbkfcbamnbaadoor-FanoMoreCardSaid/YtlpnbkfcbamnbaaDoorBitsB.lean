/- Walks: a builder of bits: Put. -/
import Derived.Test.YtlpnbkfcbamnbaaDoorBitsA
import Derived.StillTailTactics
import Derived.Deep.RegionHeld3
import Derived.Deep.RegionLaw
set_option linter.unusedVariables false
set_option linter.unusedSimpArgs false
set_option maxRecDepth 100000
namespace Go.Proofs.YtlpnbkfcbamnbaaDoor
open Go.RowKit L

/-- A builder at block g: it has put the bits bs; v is its slice of words, a row of its own. -/
def BuilderAt (w : World) (base g : Nat) (v : Value) (bs : List Bool) : Prop :=
  BlkIs w g 70 #[v, .int .i64 (bs.length : Nat)] ∧ w.ownsRow base 91 1 v (nwords bs.length) ((words bs).map (fun x => Value.int .u64 (x : Nat)))
section
variable {w : World} {base g : Nat} {v : Value} {bs : List Bool}
theorem BuilderAt.blk (h : BuilderAt w base g v bs) : BlkIs w g 70 #[v, .int .i64 (bs.length : Nat)] := h.1
theorem BuilderAt.own (h : BuilderAt w base g v bs) : w.ownsRow base 91 1 v (nwords bs.length) ((words bs).map (fun x => Value.int .u64 (x : Nat))) := h.2
theorem BuilderAt.mk (h1 : BlkIs w g 70 #[v, .int .i64 (bs.length : Nat)]) (h2 : w.ownsRow base 91 1 v (nwords bs.length) ((words bs).map (fun x => Value.int .u64 (x : Nat)))) : BuilderAt w base g v bs := ⟨h1, h2⟩
end

theorem Tryd.infoU64 : (Tryd.prog.info? 91).map (fun i => (i.zero, i.size, i.bytes)) = some (some (.int .u64 0), 1, 8) := by kernel_rfl

theorem cell_one_at (w : World) (x : Value) (e : TypeId) (k : Nat) (hk : k = w.heap.size) : ∀ j u, [x][j]? = some u → (w.alloc (.cells #[x] e)).cell? ((⟨k, 0, none⟩ : Addr).add j) = some u := by
  subst hk; exact cell_one_new _ _ _

/-- What a Put has to leave. -/
def PutDone (w w' : World) (base g : Nat) (v : Value) (bs' : List Bool) : Prop :=
  ∃ v', BuilderAt w' base g v' bs' ∧ (v'.ownBlock = v.ownBlock ∨ ∃ k, v'.ownBlock = some k ∧ w.heap.size ≤ k) ∧ Only (fun i => i = g ∨ v.ownBlock = some i) w w'

/-- The end of a Put: the slice, and the number of bits, are stored. -/
theorem put_close {w w1 : World} {base g : Nat} {v v' : Value} {bs bs' : List Bool} {m : Int} (ho : Only (fun i => i = g ∨ v.ownBlock = some i) w w1) (hb : BlkIs w1 g 70 #[v, .int .i64 (bs.length : Nat)])
    (hown : w1.ownsRow base 91 1 v' (nwords bs'.length) ((words bs').map (fun x => Value.int .u64 (x : Nat)))) (hat : v'.ownBlock = v.ownBlock ∨ ∃ k, v'.ownBlock = some k ∧ w.heap.size ≤ k) (hm : m = (bs'.length : Nat)) :
    PutDone w ((w1.setCell ⟨g, 0, none⟩ v').setCell ⟨g, 1, none⟩ (.int .i64 m)) base g v bs' := by
  subst hm
  have hne : v'.ownBlock ≠ some g := hb.ne_own hown (by decide)
  have s1 : Only (fun i => i = g) w1 (w1.setCell ⟨g, 0, none⟩ v') := (Only.refl (fun i => i = g) w1).setCell (p := ⟨g, 0, none⟩) (.inl rfl) _
  have s2 : Only (fun i => i = g) w1 ((w1.setCell ⟨g, 0, none⟩ v').setCell ⟨g, 1, none⟩ (.int .i64 (bs'.length : Nat))) := s1.setCell (p := ⟨g, 1, none⟩) (.inl rfl) _
  refine ⟨v', BuilderAt.mk ((hb.put 0 v').put 1 _) (own_only hown s2 (fun k hk e => hne (by rw [hk, e]))), hat, ho.trans s2 (fun i _ hi => .inl hi)⟩
theorem put_close1 {w w1 : World} {base g : Nat} {v : Value} {bs bs' : List Bool} {m : Int} (ho : Only (fun i => i = g ∨ v.ownBlock = some i) w w1) (hb : BlkIs w1 g 70 #[v, .int .i64 (bs.length : Nat)])
    (hown : w1.ownsRow base 91 1 v (nwords bs'.length) ((words bs').map (fun x => Value.int .u64 (x : Nat)))) (hm : m = (bs'.length : Nat)) :
    PutDone w (w1.setCell ⟨g, 1, none⟩ (.int .i64 m)) base g v bs' := by
  subst hm
  have hne : v.ownBlock ≠ some g := hb.ne_own hown (by decide)
  have s2 : Only (fun i => i = g) w1 (w1.setCell ⟨g, 1, none⟩ (.int .i64 (bs'.length : Nat))) := (Only.refl (fun i => i = g) w1).setCell (p := ⟨g, 1, none⟩) (.inl rfl) _
  refine ⟨v, BuilderAt.mk (hb.put 1 _) (own_only hown s2 (fun k hk e => hne (by rw [hk, e]))), .inl rfl, ho.trans s2 (fun i _ hi => .inl hi)⟩

theorem PutDone.drew {w w' : World} {base g : Nat} {v : Value} {bs' : List Bool} (h : PutDone w w' base g v bs') : PutDone w w'.drew base g v bs' := by
  obtain ⟨v', hb, hat, ho⟩ := h
  exact ⟨v', BuilderAt.mk hb.blk hb.own, hat, ho.drew⟩

theorem or_shl (a x s : Nat) (ha : a < 18446744073709551616) : bits BinOp.or IntKind.u64 (a : Int) (IntKind.u64.wrap ((x : Int) * 2 ^ s)) = ((a ||| (x * 2 ^ s % 18446744073709551616) : Nat) : Int) := by
  have e : IntKind.u64.wrap ((x : Int) * 2 ^ s) = ((x * 2 ^ s % 18446744073709551616 : Nat) : Int) := by rw [IntKind.wrap_u64]; simp
  rw [e]; exact u64_or_nat _ _ ha (Nat.mod_lt _ (by omega))
theorem putLast_lt (bs : List Bool) (x : Nat) : putLast bs x < 18446744073709551616 := by
  have h64 : (18446744073709551616 : Nat) = 2 ^ 64 := by decide
  unfold putLast
  rw [h64]; exact Nat.or_lt_two_pow (by rw [← h64]; exact wordAt_lt _ _) (Nat.mod_lt _ (by omega))

set_option maxHeartbeats 400000 in
theorem put_arg (x : Nat) (n : Int) (g : Nat) (w : World) (hx : x < 18446744073709551616) (h : n < 0 ∨ 64 < n ∨ n < need x) :
    Calls Tryd.prog 77 #[.pointer (some ⟨g, 0, none⟩), .int .u64 (x : Int), .int .i64 n] w fun e w' => e = .returned (.int .i64 1) ∧ w = w' := by
  rcases Int.lt_or_le n 0 with h1 | h1
  · go_enter Tryd.func77, Tryd.ntmps77
    go_wp2
    go_ret
    exact ⟨rfl, rfl⟩
  · rcases Int.lt_or_le 64 n with h2 | h2
    · go_enter Tryd.func77, Tryd.ntmps77
      go_wp2
      go_ret
      exact ⟨rfl, rfl⟩
    · have h3 : n < (need x : Int) := by omega
      clear h
      go_enter Tryd.func77, Tryd.ntmps77
      go_wp2_with (go_at_call 101; refine (wneed_any _ _ hx).mono ?_; rintro e w' ⟨rfl, rfl⟩)
      go_ret
      exact ⟨rfl, rfl⟩

set_option maxHeartbeats 400000 in
theorem put_none (g : Nat) (k : Nat) (w : World) (hk : k ≤ 4294967296) (hc : w.cell? ⟨g, 1, none⟩ = some (.int .i64 (k : Nat))) :
    Calls Tryd.prog 77 #[.pointer (some ⟨g, 0, none⟩), .int .u64 (0 : Nat), .int .i64 0] w fun e w' => e = .returned (.int .i64 0) ∧ w = w' := by
  have h0 : need 0 = 0 := by decide
  go_enter Tryd.func77, Tryd.ntmps77
  go_wp2_with (go_at_call 101; refine (wneed_any 0 _ (by omega)).mono ?_; rw [h0]; rintro e w' ⟨rfl, rfl⟩)
  go_ret
  exact ⟨rfl, rfl⟩

set_option maxHeartbeats 1000000 in
theorem put_new (x n : Nat) (base g : Nat) (v : Value) (bs : List Bool) (w : World) (hx : x < 2 ^ n) (h0 : 0 < n) (hn : n ≤ 64) (hl : bs.length + n ≤ 4294967296) (hb : BuilderAt w base g v bs) (hbase : base ≤ w.heap.size) (ha : bs.length % 64 = 0) :
    Calls Tryd.prog 77 #[.pointer (some ⟨g, 0, none⟩), .int .u64 (x : Int), .int .i64 (n : Nat)] w fun e w' => e = .returned (.int .i64 0) ∧
      PutDone w w' base g v (bs ++ bitsOf x n) := by
  have hx64 : x < 18446744073709551616 := Nat.lt_of_lt_of_le hx (pow_le64 hn)
  have hnd : need x ≤ n := (need_le_iff x n hx64).2 hx
  have c0 := hb.blk.cell 0
  have c1 := hb.blk.cell 1
  have f0 := hb.blk.frozen 0
  have f1 := hb.blk.frozen 1
  have hg := hb.blk.lt
  simp only [List.getElem?_toArray, List.getElem?_cons_zero, List.getElem?_cons_succ] at c0 c1
  have hm : (((bs.length : Nat) : Int) % 64 == 0) = true := by rw [beq_iff_eq]; omega
  have hn1 : (((n : Nat) : Int) == 0) = false := by rw [beq_eq_false_iff_ne]; omega
  have HA := hid ha
  clear ha
  have hne : v.ownBlock ≠ some g := hb.blk.ne_own hb.own (by decide)
  obtain ⟨i0, hi0, hz0, hz1, hz2⟩ := info_parts Tryd.infoU64
  have hnw : nwords bs.length ≤ 67108864 := by unfold nwords; omega
  go_enter Tryd.func77, Tryd.ntmps77
  go_wp2_with (first
    | (go_at_call 101; refine (wneed_any _ _ hx64).mono ?_; rintro e w' ⟨rfl, rfl⟩)
    | (at_builtin
       go_must (refine wpList_append_lies _ rfl (.tmp 43) (.tmp 45) _ rfl base 91 i0 _ 1 8 Tryd.underlying68 hi0 hz0 hz1 hz2 rfl (by omega) v (nwords bs.length) _ rfl (hb.own.alloc _) ⟨w.heap.size, 0, none⟩ 1 1 [.int .u64 (x : Nat)] rfl rfl ?hnews ?hone (by omega) ?h63 ?hby ?hbs (w.heap.size + 1) ?hH ?_)
       case hnews => exact cell_one_new _ _ _
       case hone => simp [Value.oneCell']
       case h63 => simp only [maxLen]; omega
       case hby => omega
       case hbs => simp; omega
       case hH => simp
       intro gv cv w1 hown1 hgr1 hat1 hlt1
       have k0 : w1.cell? ⟨g, 0, none⟩ = some v := (hgr1.cell (a := ⟨g, 0, none⟩) (by rw [World.cell?_alloc_lt _ _ _ hg]; exact c0) hne.symm)
       have k1 : w1.cell? ⟨g, 1, none⟩ = some (.int .i64 (bs.length : Nat)) := (hgr1.cell (a := ⟨g, 1, none⟩) (by rw [World.cell?_alloc_lt _ _ _ hg]; exact c1) hne.symm)
       have hb1 : BlkIs w1 g 70 #[v, .int .i64 (bs.length : Nat)] := (hb.blk.alloc _).kept (hgr1.block g (by simp; omega) hne.symm)
       have f0' := hb1.frozen 0
       have f1' := hb1.frozen 1))
  go_ret
  have hO : Only (fun i => i = g ∨ v.ownBlock = some i) w w1 := ((Only.refl _ _).alloc _).trans (Only.of_grown hgr1) (fun i _ hi => .inr hi.symm)
  have hw := words_put_new bs x n HA.out h0 hn hx
  have hlen : (bs ++ bitsOf x n).length = bs.length + n := by rw [List.length_append, bitsOf_length]
  have hnw2 : nwords (bs ++ bitsOf x n).length = nwords bs.length + 1 := by rw [hlen]; have := HA.out; unfold nwords; omega
  refine ⟨rfl, put_close hO hb1 ?_ ?_ (by rw [hlen]; omega)⟩
  · rw [hnw2, hw, List.map_append]; exact hown1
  · rcases hat1 with e | e
    · exact .inl e.symm
    · exact .inr ⟨gv, rfl, by omega⟩

set_option maxHeartbeats 1000000 in
theorem put_in (x n : Nat) (base g : Nat) (v : Value) (bs : List Bool) (w : World) (hx : x < 2 ^ n) (h0 : 0 < n) (hl : bs.length + n ≤ 4294967296) (hb : BuilderAt w base g v bs) (ha : bs.length % 64 ≠ 0) (hn : bs.length % 64 + n ≤ 64) :
    Calls Tryd.prog 77 #[.pointer (some ⟨g, 0, none⟩), .int .u64 (x : Int), .int .i64 (n : Nat)] w fun e w' => e = .returned (.int .i64 0) ∧
      PutDone w w' base g v (bs ++ bitsOf x n) := by
  have hx64 : x < 18446744073709551616 := Nat.lt_of_lt_of_le hx (pow_le64 (by omega))
  have hnd : need x ≤ n := (need_le_iff x n hx64).2 hx
  have hq : nwords bs.length = bs.length / 64 + 1 := by unfold nwords; omega
  obtain ⟨q, hqq⟩ : ∃ q, q = bs.length / 64 := ⟨_, rfl⟩
  have hown := hb.own
  rw [hq, ← hqq] at hown
  obtain ⟨g1, cap, rfl, _, hlt⟩ := hown.form (by omega)
  have c0 := hb.blk.cell 0
  have c1 := hb.blk.cell 1
  have f0 := hb.blk.frozen 0
  have f1 := hb.blk.frozen 1
  have hg := hb.blk.lt
  have cw : w.cell? ⟨g1, q, none⟩ = some (.int .u64 (wordAt bs q : Nat)) := by
    rw [hown.cellAt q (by omega), List.getElem?_map, words_get _ (by omega)]; rfl
  have fw := hown.frozenAt q
  simp only [List.getElem?_toArray, List.getElem?_cons_zero, List.getElem?_cons_succ] at c0 c1
  have hm : (((bs.length : Nat) : Int) % 64 == 0) = false := by rw [beq_eq_false_iff_ne]; omega
  have hn1 : (((n : Nat) : Int) == 0) = false := by rw [beq_eq_false_iff_ne]; omega
  have HA := hid ha
  have HQ := hid hqq
  have HQ2 := hid hq
  have hq3 : q ≤ 67108864 := by omega
  have hn2 : ((bs.length : Nat) : Int) % 64 + (n : Nat) ≤ 64 := by omega
  clear ha hqq hq
  have hne : (Value.slice (some ⟨g1, 0, none⟩) (q + 1) cap).ownBlock ≠ some g := hb.blk.ne_own hb.own (by decide)
  have hne' : g ≠ g1 := fun e => hne (by rw [e]; rfl)
  go_enter Tryd.func77, Tryd.ntmps77
  go_wp2_with (first
    | (go_at_call 101; refine (wneed_any _ _ hx64).mono ?_; rintro e w' ⟨rfl, rfl⟩))
  have r1 : IntKind.i64.wrap ((q : Int) + 1 - 1) = (q : Int) := by rw [IntKind.wrap_i64]; omega
  have r2 : IntKind.i64.wrap (q : Int) = (q : Int) := by rw [IntKind.wrap_i64]; omega
  have r3 : (0 : Int) ≤ (q : Int) := by omega
  have r4 : (q : Int) < (q : Int) + 1 := by omega
  go_still_tail 17, (by kernel_rfl)
  change wpList _ _ _ _ _ w.drew
  go_wp2
  go_ret
  have hval : bits BinOp.or IntKind.u64 (wordAt bs q : Nat) (IntKind.u64.wrap ((x : Int) * 2 ^ (bs.length % 64))) = ((putLast bs x : Nat) : Int) := by
    rw [or_shl _ _ _ (wordAt_lt _ _), HQ.out]; rfl
  rw [hval]
  have hlen : (bs ++ bitsOf x n).length = bs.length + n := by rw [List.length_append, bitsOf_length]
  have hnw2 : nwords (bs ++ bitsOf x n).length = q + 1 := by rw [hlen]; have := HA.out; have := HQ.out; unfold nwords; omega
  have hst := hown.stored q (.int .u64 (putLast bs x : Nat))
  refine ⟨rfl, (put_close1 (bs := bs) (v := .slice (some ⟨g1, 0, none⟩) (q + 1) cap) (Only.of_grown hst.2 |>.mono (fun i _ hi => .inr hi.symm)) (hb.blk.far (p := ⟨g1, q, none⟩) hne' _) ?_ (by rw [hlen]; omega)).drew⟩
  rw [hnw2, words_put_in bs x n HA.out hn hx, List.map_set, ← HQ.out]
  exact hst.1

set_option maxHeartbeats 1000000 in
theorem put_over (x n : Nat) (base g : Nat) (v : Value) (bs : List Bool) (w : World) (hx : x < 2 ^ n) (hn' : n ≤ 64) (hl : bs.length + n ≤ 4294967296) (hb : BuilderAt w base g v bs) (hbase : base ≤ w.heap.size) (ha : bs.length % 64 ≠ 0) (hn : 64 < bs.length % 64 + n) :
    Calls Tryd.prog 77 #[.pointer (some ⟨g, 0, none⟩), .int .u64 (x : Int), .int .i64 (n : Nat)] w fun e w' => e = .returned (.int .i64 0) ∧
      PutDone w w' base g v (bs ++ bitsOf x n) := by
  have hx64 : x < 18446744073709551616 := Nat.lt_of_lt_of_le hx (pow_le64 (by omega))
  have hnd : need x ≤ n := (need_le_iff x n hx64).2 hx
  have hq : nwords bs.length = bs.length / 64 + 1 := by unfold nwords; omega
  obtain ⟨q, hqq⟩ : ∃ q, q = bs.length / 64 := ⟨_, rfl⟩
  have hown := hb.own
  rw [hq, ← hqq] at hown
  obtain ⟨g1, cap, rfl, _, hlt⟩ := hown.form (by omega)
  have c0 := hb.blk.cell 0
  have c1 := hb.blk.cell 1
  have f0 := hb.blk.frozen 0
  have f1 := hb.blk.frozen 1
  have hg := hb.blk.lt
  have cw : w.cell? ⟨g1, q, none⟩ = some (.int .u64 (wordAt bs q : Nat)) := by
    rw [hown.cellAt q (by omega), List.getElem?_map, words_get _ (by omega)]; rfl
  have fw := hown.frozenAt q
  simp only [List.getElem?_toArray, List.getElem?_cons_zero, List.getElem?_cons_succ] at c0 c1
  have hm : (((bs.length : Nat) : Int) % 64 == 0) = false := by rw [beq_eq_false_iff_ne]; omega
  have hn1 : (((n : Nat) : Int) == 0) = false := by rw [beq_eq_false_iff_ne]; omega
  have HA := hid ha
  have HQ := hid hqq
  have HQ2 := hid hq
  have hq3 : q ≤ 67108864 := by omega
  have hn2 : 64 < ((bs.length : Nat) : Int) % 64 + (n : Nat) := by omega
  clear ha hqq hq
  have hne : (Value.slice (some ⟨g1, 0, none⟩) (q + 1) cap).ownBlock ≠ some g := hb.blk.ne_own hb.own (by decide)
  have hne' : g ≠ g1 := fun e => hne (by rw [e]; rfl)
  have r1 : IntKind.i64.wrap ((q : Int) + 1 - 1) = (q : Int) := by rw [IntKind.wrap_i64]; omega
  have r2 : IntKind.i64.wrap (q : Int) = (q : Int) := by rw [IntKind.wrap_i64]; omega
  have r3 : (0 : Int) ≤ (q : Int) := by omega
  have r4 : (q : Int) < (q : Int) + 1 := by omega
  have r5 : bits BinOp.or IntKind.u64 (wordAt bs q : Nat) (IntKind.u64.wrap ((x : Int) * 2 ^ (((bs.length : Nat) : Int) % 64).toNat)) = ((putLast bs x : Nat) : Int) := by
    rw [or_shl _ _ _ (wordAt_lt _ _), HQ.out, show (((bs.length : Nat) : Int) % 64).toNat = bs.length % 64 from by omega]; rfl
  have r6 : bits BinOp.or IntKind.u64 (wordAt bs q : Nat) (IntKind.u64.wrap ((x : Int) * 2 ^ (bs.length % 64))) = ((putLast bs x : Nat) : Int) := by
    rw [or_shl _ _ _ (wordAt_lt _ _), HQ.out]; rfl
  have hst := hown.stored q (.int .u64 (putLast bs x : Nat))
  have c0s : (w.setCell ⟨g1, q, none⟩ (.int .u64 (putLast bs x : Nat))).cell? ⟨g, 0, none⟩ = some (.slice (some ⟨g1, 0, none⟩) (q + 1) cap) := (World.cell?_setCell_other w _ ⟨g, 0, none⟩ _ (fun e => hne' (by injection e with e1; first | exact e1 | exact e1.symm))).trans c0
  obtain ⟨i0, hi0, hz0, hz1, hz2⟩ := info_parts Tryd.infoU64
  have d1 : (0 : Int) ≤ 64 - ((bs.length : Nat) : Int) % 64 := by omega
  have d2 : IntKind.i64.wrap (64 - ((bs.length : Nat) : Int) % 64) = 64 - ((bs.length : Nat) : Int) % 64 := by rw [IntKind.wrap_i64]; omega
  go_enter Tryd.func77, Tryd.ntmps77
  go_wp2_with (first
    | (go_at_call 101; refine (wneed_any _ _ hx64).mono ?_; rintro e w' ⟨rfl, rfl⟩))
  go_still_tail 17, (by kernel_rfl)
  change wpList _ _ _ _ _ w.drew
  go_wp2
  go_region_law
    ((refine step_append_lies _ (by rfl) (.tmp 74) (.tmp 79) _ (by rfl) base 91 i0 _ 1 8 Tryd.underlying68 hi0 hz0 hz1 hz2 rfl (by omega) (.slice (some ⟨g1, 0, none⟩) (q + 1) cap) (q + 1) _ (by rfl) (by exact hst.1.alloc _) ⟨w.heap.size, 0, none⟩ 1 1 [.int .u64 ((x : Int) / 2 ^ (64 - ((bs.length : Nat) : Int) % 64).toNat)] (by rfl) (by rfl) (by exact cell_one_at _ _ _ _ (by simp)) (by simp [Value.oneCell']) (by omega) (by simp only [maxLen]; omega) (by omega) (by simp; omega) (w.heap.size + 1) (by simp) ?_;
      intro g2 cap2 w1 hown1 hgr1 hat1 hlt1;
      have k0 : w1.cell? ⟨g, 0, none⟩ = some (.slice (some ⟨g1, 0, none⟩) (q + 1) cap) := (hgr1.cell (a := ⟨g, 0, none⟩) ((World.cell?_alloc_lt _ _ _ (by simp; omega)).trans c0s) hne.symm);
      have hb1 : BlkIs w1 g 70 #[.slice (some ⟨g1, 0, none⟩) (q + 1) cap, .int .i64 (bs.length : Nat)] := ((hb.blk.far (p := ⟨g1, q, none⟩) hne' (.int .u64 (putLast bs x : Nat))).alloc _).kept (hgr1.block g (by simp; omega) hne.symm);
      have k1 := hb1.cell 1;
      have f0' := hb1.frozen 0;
      have f1' := hb1.frozen 1))
  all_goals
    go_wp2
    go_ret
    have hlen : (bs ++ bitsOf x n).length = bs.length + n := by rw [List.length_append, bitsOf_length]
    have hnw2 : nwords (bs ++ bitsOf x n).length = q + 1 + 1 := by rw [hlen]; have := HA.out; have := HQ.out; unfold nwords; omega
    have hnews : ((x : Int) / 2 ^ (64 - ((bs.length : Nat) : Int) % 64).toNat) = ((x / 2 ^ (64 - bs.length % 64) : Nat) : Int) := by
      rw [show (64 - ((bs.length : Nat) : Int) % 64).toNat = 64 - bs.length % 64 from by omega]; simp
    rw [hnews] at hown1
    have hO : Only (fun i => i = g ∨ (Value.slice (some ⟨g1, 0, none⟩) (q + 1) cap).ownBlock = some i) w w1 :=
      (((Only.of_grown hst.2).mono (T := fun i => i = g ∨ (Value.slice (some ⟨g1, 0, none⟩) (q + 1) cap).ownBlock = some i) (fun i _ hi => .inr hi.symm)).alloc (.cells #[.int .u64 ((x : Int) / 2 ^ (64 - ((bs.length : Nat) : Int) % 64).toNat)] 91)).drew.drew.trans (Only.of_grown hgr1) (fun i _ hi => .inr hi.symm)
    refine ⟨rfl, put_close hO hb1 ?_ ?_ (by rw [hlen]; omega)⟩
    · rw [hnw2, words_put_over bs x n HA.out hn hn' hx, List.map_append, List.map_set, ← HQ.out]; exact hown1
    · rcases hat1 with e | e
      · exact .inl e.symm
      · exact .inr ⟨g2, rfl, by omega⟩

/-- Put, whatever is right of it. -/
theorem put_ok (x n : Nat) (base g : Nat) (v : Value) (bs : List Bool) (w : World) (hx : x < 2 ^ n) (hn : n ≤ 64) (hl : bs.length + n ≤ 4294967296) (hb : BuilderAt w base g v bs) (hbase : base ≤ w.heap.size) :
    Calls Tryd.prog 77 #[.pointer (some ⟨g, 0, none⟩), .int .u64 (x : Int), .int .i64 (n : Nat)] w fun e w' => e = .returned (.int .i64 0) ∧
      PutDone w w' base g v (bs ++ bitsOf x n) := by
  rcases Nat.eq_zero_or_pos n with h0 | h0
  · subst h0
    have hx0 : x = 0 := by simpa using hx
    subst hx0
    refine (put_none g bs.length w (by omega) (by rw [hb.blk.cell 1]; rfl)).mono ?_
    rintro e w' ⟨rfl, rfl⟩
    exact ⟨rfl, v, by simpa [bitsOf] using hb, .inl rfl, Only.refl _ _⟩
  · by_cases ha : bs.length % 64 = 0
    · exact put_new x n base g v bs w hx h0 hn hl hb hbase ha
    · rcases Nat.lt_or_ge 64 (bs.length % 64 + n) with h | h
      · exact put_over x n base g v bs w hx hn hl hb hbase ha h
      · exact put_in x n base g v bs w hx h0 hl hb ha h

end Go.Proofs.YtlpnbkfcbamnbaaDoor
