/- The texts BitsA, BitsB, BitsC, BitsD, BitsE, BitsF, BitsG, BitsH, BitsI, in one. -/
import Derived.Test.YtacllonekidocaaDoorBase
import Derived.Test.YtacllonekidocaaDoorMaths
import Derived.Test.YtacllonekidocaaDoorShelf
import Derived.StillTailTactics
import Derived.Deep.RegionHeld3
import Derived.Deep.RegionLaw
import Derived.Lib.Builder
import Derived.Laws.BytesArg
/- Walks: bits of words by the reference, Need, and what a row and a builder of bits tell. -/




set_option linter.unusedVariables false
set_option linter.unusedSimpArgs false
namespace Go.Proofs.YtacllonekidocaaDoor
open Go.RowKit L

set_option maxHeartbeats 400000 in
theorem wneed_any (x : Nat) (w : World) (hx : x < 18446744073709551616) :
    Calls Tryd.prog 38 #[.int .u64 (x : Int)] w fun e w' => e = .returned (.int .i64 (need x : Nat)) ∧ w = w' := by
  go_enter Tryd.func38, Tryd.ntmps38
  go_wp2_with (go_at_call 58; refine (Tryd.bits_Len64 _ _ (by omega) (by omega)).mono ?_; rintro e w' ⟨rfl, rfl⟩)
  go_ret
  exact ⟨rfl, rfl⟩

end Go.Proofs.YtacllonekidocaaDoor

/- Walks: a builder of bits: Put. -/




set_option linter.unusedVariables false
set_option linter.unusedSimpArgs false
set_option maxRecDepth 100000
namespace Go.Proofs.YtacllonekidocaaDoor
open Go.RowKit L

/-- A builder at block g: it has put the bits bs; v is its slice of words, a row of its own. -/
def BuilderAt (w : World) (base g : Nat) (v : Value) (bs : List Bool) : Prop :=
  BlkIs w g 62 #[v, .int .i64 (bs.length : Nat)] ∧ w.ownsRow base 86 1 v (nwords bs.length) ((words bs).map (fun x => Value.int .u64 (x : Nat)))
section
variable {w : World} {base g : Nat} {v : Value} {bs : List Bool}
theorem BuilderAt.blk (h : BuilderAt w base g v bs) : BlkIs w g 62 #[v, .int .i64 (bs.length : Nat)] := h.1
theorem BuilderAt.own (h : BuilderAt w base g v bs) : w.ownsRow base 86 1 v (nwords bs.length) ((words bs).map (fun x => Value.int .u64 (x : Nat))) := h.2
theorem BuilderAt.mk (h1 : BlkIs w g 62 #[v, .int .i64 (bs.length : Nat)]) (h2 : w.ownsRow base 86 1 v (nwords bs.length) ((words bs).map (fun x => Value.int .u64 (x : Nat)))) : BuilderAt w base g v bs := ⟨h1, h2⟩
end

theorem Tryd.infoU64 : (Tryd.prog.info? 86).map (fun i => (i.zero, i.size, i.bytes)) = some (some (.int .u64 0), 1, 8) := by kernel_rfl

theorem cell_one_at (w : World) (x : Value) (e : TypeId) (k : Nat) (hk : k = w.heap.size) : ∀ j u, [x][j]? = some u → (w.alloc (.cells #[x] e)).cell? ((⟨k, 0, none⟩ : Addr).add j) = some u := by
  subst hk; exact cell_one_new _ _ _

/-- What a Put has to leave. -/
def PutDone (w w' : World) (base g : Nat) (v : Value) (bs' : List Bool) : Prop :=
  ∃ v', BuilderAt w' base g v' bs' ∧ (v'.ownBlock = v.ownBlock ∨ ∃ k, v'.ownBlock = some k ∧ w.heap.size ≤ k) ∧ Only (fun i => i = g ∨ v.ownBlock = some i) w w'

/-- The end of a Put: the slice, and the number of bits, are stored. -/
theorem put_close {w w1 : World} {base g : Nat} {v v' : Value} {bs bs' : List Bool} {m : Int} (ho : Only (fun i => i = g ∨ v.ownBlock = some i) w w1) (hb : BlkIs w1 g 62 #[v, .int .i64 (bs.length : Nat)])
    (hown : w1.ownsRow base 86 1 v' (nwords bs'.length) ((words bs').map (fun x => Value.int .u64 (x : Nat)))) (hat : v'.ownBlock = v.ownBlock ∨ ∃ k, v'.ownBlock = some k ∧ w.heap.size ≤ k) (hm : m = (bs'.length : Nat)) :
    PutDone w ((w1.setCell ⟨g, 0, none⟩ v').setCell ⟨g, 1, none⟩ (.int .i64 m)) base g v bs' := by
  subst hm
  have hne : v'.ownBlock ≠ some g := hb.ne_own hown (by decide)
  have s1 : Only (fun i => i = g) w1 (w1.setCell ⟨g, 0, none⟩ v') := (Only.refl (fun i => i = g) w1).setCell (p := ⟨g, 0, none⟩) (.inl rfl) _
  have s2 : Only (fun i => i = g) w1 ((w1.setCell ⟨g, 0, none⟩ v').setCell ⟨g, 1, none⟩ (.int .i64 (bs'.length : Nat))) := s1.setCell (p := ⟨g, 1, none⟩) (.inl rfl) _
  refine ⟨v', BuilderAt.mk ((hb.put 0 v').put 1 _) (own_only hown s2 (fun k hk e => hne (by rw [hk, e]))), hat, ho.trans s2 (fun i _ hi => .inl hi)⟩
theorem put_close1 {w w1 : World} {base g : Nat} {v : Value} {bs bs' : List Bool} {m : Int} (ho : Only (fun i => i = g ∨ v.ownBlock = some i) w w1) (hb : BlkIs w1 g 62 #[v, .int .i64 (bs.length : Nat)])
    (hown : w1.ownsRow base 86 1 v (nwords bs'.length) ((words bs').map (fun x => Value.int .u64 (x : Nat)))) (hm : m = (bs'.length : Nat)) :
    PutDone w (w1.setCell ⟨g, 1, none⟩ (.int .i64 m)) base g v bs' := by
  subst hm
  have hne : v.ownBlock ≠ some g := hb.ne_own hown (by decide)
  have s2 : Only (fun i => i = g) w1 (w1.setCell ⟨g, 1, none⟩ (.int .i64 (bs'.length : Nat))) := (Only.refl (fun i => i = g) w1).setCell (p := ⟨g, 1, none⟩) (.inl rfl) _
  refine ⟨v, BuilderAt.mk (hb.put 1 _) (own_only hown s2 (fun k hk e => hne (by rw [hk, e]))), .inl rfl, ho.trans s2 (fun i _ hi => .inl hi)⟩

theorem PutDone.drew {w w' : World} {base g : Nat} {v : Value} {bs' : List Bool} (h : PutDone w w' base g v bs') : PutDone w w'.drew base g v bs' := by
  obtain ⟨v', hb, hat, ho⟩ := h
  exact ⟨v', BuilderAt.mk hb.blk hb.own, hat, ho.drew⟩

theorem or_shl (a x s : Nat) (ha : a < 18446744073709551616) : bits BinOp.or IntKind.u64 (a : Int) (IntKind.u64.wrap ((x : Int) * 2 ^ s)) = ((a ||| (x * 2 ^ s % 18446744073709551616) : Nat) : Int) := by
  have e : IntKind.u64.wrap ((x : Int) * 2 ^ s) = ((x * 2 ^ s % 18446744073709551616 : Nat) : Int) := by rw [IntKind.wrap_u64]; simp
  rw [e]; exact u64_or_nat _ _ ha (Nat.mod_lt _ (by omega))
theorem putLast_lt (bs : List Bool) (x : Nat) : putLast bs x < 18446744073709551616 := by
  have h64 : (18446744073709551616 : Nat) = 2 ^ 64 := by decide
  unfold putLast
  rw [h64]; exact Nat.or_lt_two_pow (by rw [← h64]; exact wordAt_lt _ _) (Nat.mod_lt _ (by omega))

set_option maxHeartbeats 400000 in
theorem put_arg (x : Nat) (n : Int) (g : Nat) (w : World) (hx : x < 18446744073709551616) (h : n < 0 ∨ 64 < n ∨ n < need x) :
    Calls Tryd.prog 39 #[.pointer (some ⟨g, 0, none⟩), .int .u64 (x : Int), .int .i64 n] w fun e w' => e = .returned (.int .i64 1) ∧ w = w' := by
  rcases Int.lt_or_le n 0 with h1 | h1
  · go_enter Tryd.func39, Tryd.ntmps39
    go_wp2
    go_ret
    exact ⟨rfl, rfl⟩
  · rcases Int.lt_or_le 64 n with h2 | h2
    · go_enter Tryd.func39, Tryd.ntmps39
      go_wp2
      go_ret
      exact ⟨rfl, rfl⟩
    · have h3 : n < (need x : Int) := by omega
      clear h
      go_enter Tryd.func39, Tryd.ntmps39
      go_wp2_with (go_at_call 38; refine (wneed_any _ _ hx).mono ?_; rintro e w' ⟨rfl, rfl⟩)
      go_ret
      exact ⟨rfl, rfl⟩

set_option maxHeartbeats 400000 in
theorem put_none (g : Nat) (k : Nat) (w : World) (hk : k ≤ 4294967296) (hc : w.cell? ⟨g, 1, none⟩ = some (.int .i64 (k : Nat))) :
    Calls Tryd.prog 39 #[.pointer (some ⟨g, 0, none⟩), .int .u64 (0 : Nat), .int .i64 0] w fun e w' => e = .returned (.int .i64 0) ∧ w = w' := by
  have h0 : need 0 = 0 := by decide
  go_enter Tryd.func39, Tryd.ntmps39
  go_wp2_with (go_at_call 38; refine (wneed_any 0 _ (by omega)).mono ?_; rw [h0]; rintro e w' ⟨rfl, rfl⟩)
  go_ret
  exact ⟨rfl, rfl⟩

set_option maxHeartbeats 1000000 in
theorem put_new (x n : Nat) (base g : Nat) (v : Value) (bs : List Bool) (w : World) (hx : x < 2 ^ n) (h0 : 0 < n) (hn : n ≤ 64) (hl : bs.length + n ≤ 4294967296) (hb : BuilderAt w base g v bs) (hbase : base ≤ w.heap.size) (ha : bs.length % 64 = 0) :
    Calls Tryd.prog 39 #[.pointer (some ⟨g, 0, none⟩), .int .u64 (x : Int), .int .i64 (n : Nat)] w fun e w' => e = .returned (.int .i64 0) ∧
      PutDone w w' base g v (bs ++ bitsOf x n) := by
  have hx64 : x < 18446744073709551616 := Nat.lt_of_lt_of_le hx (pow_le64 hn)
  have hnd : need x ≤ n := (need_le_iff x n hx64).2 hx
  have c0 := hb.blk.cell 0
  have c1 := hb.blk.cell 1
  have f0 := hb.blk.frozen 0
  have f1 := hb.blk.frozen 1
  have hg := hb.blk.lt
  simp only [List.getElem?_toArray, List.getElem?_cons_zero, List.getElem?_cons_succ] at c0 c1
  have hm : (((bs.length : Nat) : Int) % 64 == 0) = true := by rw [beq_iff_eq]; omega
  have hn1 : (((n : Nat) : Int) == 0) = false := by rw [beq_eq_false_iff_ne]; omega
  have HA := hid ha
  clear ha
  have hne : v.ownBlock ≠ some g := hb.blk.ne_own hb.own (by decide)
  obtain ⟨i0, hi0, hz0, hz1, hz2⟩ := info_parts Tryd.infoU64
  have hnw : nwords bs.length ≤ 67108864 := by unfold nwords; omega
  go_enter Tryd.func39, Tryd.ntmps39
  go_wp2_with (first
    | (go_at_call 38; refine (wneed_any _ _ hx64).mono ?_; rintro e w' ⟨rfl, rfl⟩)
    | (at_builtin
       go_must (refine wpList_append_lies _ rfl (.tmp 43) (.tmp 45) _ rfl base 86 i0 _ 1 8 Tryd.underlying60 hi0 hz0 hz1 hz2 rfl (by omega) v (nwords bs.length) _ rfl (hb.own.alloc _) ⟨w.heap.size, 0, none⟩ 1 1 [.int .u64 (x : Nat)] rfl rfl ?hnews ?hone (by omega) ?h63 ?hby ?hbs (w.heap.size + 1) ?hH ?_)
       case hnews => exact cell_one_new _ _ _
       case hone => simp [Value.oneCell']
       case h63 => simp only [maxLen]; omega
       case hby => omega
       case hbs => simp; omega
       case hH => simp
       intro gv cv w1 hown1 hgr1 hat1 hlt1
       have k0 : w1.cell? ⟨g, 0, none⟩ = some v := (hgr1.cell (a := ⟨g, 0, none⟩) (by rw [World.cell?_alloc_lt _ _ _ hg]; exact c0) hne.symm)
       have k1 : w1.cell? ⟨g, 1, none⟩ = some (.int .i64 (bs.length : Nat)) := (hgr1.cell (a := ⟨g, 1, none⟩) (by rw [World.cell?_alloc_lt _ _ _ hg]; exact c1) hne.symm)
       have hb1 : BlkIs w1 g 62 #[v, .int .i64 (bs.length : Nat)] := (hb.blk.alloc _).kept (hgr1.block g (by simp; omega) hne.symm)
       have f0' := hb1.frozen 0
       have f1' := hb1.frozen 1))
  go_ret
  have hO : Only (fun i => i = g ∨ v.ownBlock = some i) w w1 := ((Only.refl _ _).alloc _).trans (Only.of_grown hgr1) (fun i _ hi => .inr hi.symm)
  have hw := words_put_new bs x n HA.out h0 hn hx
  have hlen : (bs ++ bitsOf x n).length = bs.length + n := by rw [List.length_append, bitsOf_length]
  have hnw2 : nwords (bs ++ bitsOf x n).length = nwords bs.length + 1 := by rw [hlen]; have := HA.out; unfold nwords; omega
  refine ⟨rfl, put_close hO hb1 ?_ ?_ (by rw [hlen]; omega)⟩
  · rw [hnw2, hw, List.map_append]; exact hown1
  · rcases hat1 with e | e
    · exact .inl e.symm
    · exact .inr ⟨gv, rfl, by omega⟩

set_option maxHeartbeats 1000000 in
theorem put_in (x n : Nat) (base g : Nat) (v : Value) (bs : List Bool) (w : World) (hx : x < 2 ^ n) (h0 : 0 < n) (hl : bs.length + n ≤ 4294967296) (hb : BuilderAt w base g v bs) (ha : bs.length % 64 ≠ 0) (hn : bs.length % 64 + n ≤ 64) :
    Calls Tryd.prog 39 #[.pointer (some ⟨g, 0, none⟩), .int .u64 (x : Int), .int .i64 (n : Nat)] w fun e w' => e = .returned (.int .i64 0) ∧
      PutDone w w' base g v (bs ++ bitsOf x n) := by
  have hx64 : x < 18446744073709551616 := Nat.lt_of_lt_of_le hx (pow_le64 (by omega))
  have hnd : need x ≤ n := (need_le_iff x n hx64).2 hx
  have hq : nwords bs.length = bs.length / 64 + 1 := by unfold nwords; omega
  obtain ⟨q, hqq⟩ : ∃ q, q = bs.length / 64 := ⟨_, rfl⟩
  have hown := hb.own
  rw [hq, ← hqq] at hown
  obtain ⟨g1, cap, rfl, _, hlt⟩ := hown.form (by omega)
  have c0 := hb.blk.cell 0
  have c1 := hb.blk.cell 1
  have f0 := hb.blk.frozen 0
  have f1 := hb.blk.frozen 1
  have hg := hb.blk.lt
  have cw : w.cell? ⟨g1, q, none⟩ = some (.int .u64 (wordAt bs q : Nat)) := by
    rw [hown.cellAt q (by omega), List.getElem?_map, words_get _ (by omega)]; rfl
  have fw := hown.frozenAt q
  simp only [List.getElem?_toArray, List.getElem?_cons_zero, List.getElem?_cons_succ] at c0 c1
  have hm : (((bs.length : Nat) : Int) % 64 == 0) = false := by rw [beq_eq_false_iff_ne]; omega
  have hn1 : (((n : Nat) : Int) == 0) = false := by rw [beq_eq_false_iff_ne]; omega
  have HA := hid ha
  have HQ := hid hqq
  have HQ2 := hid hq
  have hq3 : q ≤ 67108864 := by omega
  have hn2 : ((bs.length : Nat) : Int) % 64 + (n : Nat) ≤ 64 := by omega
  clear ha hqq hq
  have hne : (Value.slice (some ⟨g1, 0, none⟩) (q + 1) cap).ownBlock ≠ some g := hb.blk.ne_own hb.own (by decide)
  have hne' : g ≠ g1 := fun e => hne (by rw [e]; rfl)
  go_enter Tryd.func39, Tryd.ntmps39
  go_wp2_with (first
    | (go_at_call 38; refine (wneed_any _ _ hx64).mono ?_; rintro e w' ⟨rfl, rfl⟩))
  have r1 : IntKind.i64.wrap ((q : Int) + 1 - 1) = (q : Int) := by rw [IntKind.wrap_i64]; omega
  have r2 : IntKind.i64.wrap (q : Int) = (q : Int) := by rw [IntKind.wrap_i64]; omega
  have r3 : (0 : Int) ≤ (q : Int) := by omega
  have r4 : (q : Int) < (q : Int) + 1 := by omega
  go_still_tail 17, (by kernel_rfl)
  change wpList _ _ _ _ _ w.drew
  go_wp2
  go_ret
  have hval : bits BinOp.or IntKind.u64 (wordAt bs q : Nat) (IntKind.u64.wrap ((x : Int) * 2 ^ (bs.length % 64))) = ((putLast bs x : Nat) : Int) := by
    rw [or_shl _ _ _ (wordAt_lt _ _), HQ.out]; rfl
  rw [hval]
  have hlen : (bs ++ bitsOf x n).length = bs.length + n := by rw [List.length_append, bitsOf_length]
  have hnw2 : nwords (bs ++ bitsOf x n).length = q + 1 := by rw [hlen]; have := HA.out; have := HQ.out; unfold nwords; omega
  have hst := hown.stored q (.int .u64 (putLast bs x : Nat))
  refine ⟨rfl, (put_close1 (bs := bs) (v := .slice (some ⟨g1, 0, none⟩) (q + 1) cap) (Only.of_grown hst.2 |>.mono (fun i _ hi => .inr hi.symm)) (hb.blk.far (p := ⟨g1, q, none⟩) hne' _) ?_ (by rw [hlen]; omega)).drew⟩
  rw [hnw2, words_put_in bs x n HA.out hn hx, List.map_set, ← HQ.out]
  exact hst.1

set_option maxHeartbeats 1000000 in
theorem put_over (x n : Nat) (base g : Nat) (v : Value) (bs : List Bool) (w : World) (hx : x < 2 ^ n) (hn' : n ≤ 64) (hl : bs.length + n ≤ 4294967296) (hb : BuilderAt w base g v bs) (hbase : base ≤ w.heap.size) (ha : bs.length % 64 ≠ 0) (hn : 64 < bs.length % 64 + n) :
    Calls Tryd.prog 39 #[.pointer (some ⟨g, 0, none⟩), .int .u64 (x : Int), .int .i64 (n : Nat)] w fun e w' => e = .returned (.int .i64 0) ∧
      PutDone w w' base g v (bs ++ bitsOf x n) := by
  have hx64 : x < 18446744073709551616 := Nat.lt_of_lt_of_le hx (pow_le64 (by omega))
  have hnd : need x ≤ n := (need_le_iff x n hx64).2 hx
  have hq : nwords bs.length = bs.length / 64 + 1 := by unfold nwords; omega
  obtain ⟨q, hqq⟩ : ∃ q, q = bs.length / 64 := ⟨_, rfl⟩
  have hown := hb.own
  rw [hq, ← hqq] at hown
  obtain ⟨g1, cap, rfl, _, hlt⟩ := hown.form (by omega)
  have c0 := hb.blk.cell 0
  have c1 := hb.blk.cell 1
  have f0 := hb.blk.frozen 0
  have f1 := hb.blk.frozen 1
  have hg := hb.blk.lt
  have cw : w.cell? ⟨g1, q, none⟩ = some (.int .u64 (wordAt bs q : Nat)) := by
    rw [hown.cellAt q (by omega), List.getElem?_map, words_get _ (by omega)]; rfl
  have fw := hown.frozenAt q
  simp only [List.getElem?_toArray, List.getElem?_cons_zero, List.getElem?_cons_succ] at c0 c1
  have hm : (((bs.length : Nat) : Int) % 64 == 0) = false := by rw [beq_eq_false_iff_ne]; omega
  have hn1 : (((n : Nat) : Int) == 0) = false := by rw [beq_eq_false_iff_ne]; omega
  have HA := hid ha
  have HQ := hid hqq
  have HQ2 := hid hq
  have hq3 : q ≤ 67108864 := by omega
  have hn2 : 64 < ((bs.length : Nat) : Int) % 64 + (n : Nat) := by omega
  clear ha hqq hq
  have hne : (Value.slice (some ⟨g1, 0, none⟩) (q + 1) cap).ownBlock ≠ some g := hb.blk.ne_own hb.own (by decide)
  have hne' : g ≠ g1 := fun e => hne (by rw [e]; rfl)
  have r1 : IntKind.i64.wrap ((q : Int) + 1 - 1) = (q : Int) := by rw [IntKind.wrap_i64]; omega
  have r2 : IntKind.i64.wrap (q : Int) = (q : Int) := by rw [IntKind.wrap_i64]; omega
  have r3 : (0 : Int) ≤ (q : Int) := by omega
  have r4 : (q : Int) < (q : Int) + 1 := by omega
  have r5 : bits BinOp.or IntKind.u64 (wordAt bs q : Nat) (IntKind.u64.wrap ((x : Int) * 2 ^ (((bs.length : Nat) : Int) % 64).toNat)) = ((putLast bs x : Nat) : Int) := by
    rw [or_shl _ _ _ (wordAt_lt _ _), HQ.out, show (((bs.length : Nat) : Int) % 64).toNat = bs.length % 64 from by omega]; rfl
  have r6 : bits BinOp.or IntKind.u64 (wordAt bs q : Nat) (IntKind.u64.wrap ((x : Int) * 2 ^ (bs.length % 64))) = ((putLast bs x : Nat) : Int) := by
    rw [or_shl _ _ _ (wordAt_lt _ _), HQ.out]; rfl
  have hst := hown.stored q (.int .u64 (putLast bs x : Nat))
  have c0s : (w.setCell ⟨g1, q, none⟩ (.int .u64 (putLast bs x : Nat))).cell? ⟨g, 0, none⟩ = some (.slice (some ⟨g1, 0, none⟩) (q + 1) cap) := (World.cell?_setCell_other w _ ⟨g, 0, none⟩ _ (fun e => hne' (by injection e with e1; first | exact e1 | exact e1.symm))).trans c0
  obtain ⟨i0, hi0, hz0, hz1, hz2⟩ := info_parts Tryd.infoU64
  have d1 : (0 : Int) ≤ 64 - ((bs.length : Nat) : Int) % 64 := by omega
  have d2 : IntKind.i64.wrap (64 - ((bs.length : Nat) : Int) % 64) = 64 - ((bs.length : Nat) : Int) % 64 := by rw [IntKind.wrap_i64]; omega
  go_enter Tryd.func39, Tryd.ntmps39
  go_wp2_with (first
    | (go_at_call 38; refine (wneed_any _ _ hx64).mono ?_; rintro e w' ⟨rfl, rfl⟩))
  go_still_tail 17, (by kernel_rfl)
  change wpList _ _ _ _ _ w.drew
  go_wp2
  go_region_law
    ((refine step_append_lies _ (by rfl) (.tmp 74) (.tmp 79) _ (by rfl) base 86 i0 _ 1 8 Tryd.underlying60 hi0 hz0 hz1 hz2 rfl (by omega) (.slice (some ⟨g1, 0, none⟩) (q + 1) cap) (q + 1) _ (by rfl) (by exact hst.1.alloc _) ⟨w.heap.size, 0, none⟩ 1 1 [.int .u64 ((x : Int) / 2 ^ (64 - ((bs.length : Nat) : Int) % 64).toNat)] (by rfl) (by rfl) (by exact cell_one_at _ _ _ _ (by simp)) (by simp [Value.oneCell']) (by omega) (by simp only [maxLen]; omega) (by omega) (by simp; omega) (w.heap.size + 1) (by simp) ?_;
      intro g2 cap2 w1 hown1 hgr1 hat1 hlt1;
      have k0 : w1.cell? ⟨g, 0, none⟩ = some (.slice (some ⟨g1, 0, none⟩) (q + 1) cap) := (hgr1.cell (a := ⟨g, 0, none⟩) ((World.cell?_alloc_lt _ _ _ (by simp; omega)).trans c0s) hne.symm);
      have hb1 : BlkIs w1 g 62 #[.slice (some ⟨g1, 0, none⟩) (q + 1) cap, .int .i64 (bs.length : Nat)] := ((hb.blk.far (p := ⟨g1, q, none⟩) hne' (.int .u64 (putLast bs x : Nat))).alloc _).kept (hgr1.block g (by simp; omega) hne.symm);
      have k1 := hb1.cell 1;
      have f0' := hb1.frozen 0;
      have f1' := hb1.frozen 1))
  all_goals
    go_wp2
    go_ret
    have hlen : (bs ++ bitsOf x n).length = bs.length + n := by rw [List.length_append, bitsOf_length]
    have hnw2 : nwords (bs ++ bitsOf x n).length = q + 1 + 1 := by rw [hlen]; have := HA.out; have := HQ.out; unfold nwords; omega
    have hnews : ((x : Int) / 2 ^ (64 - ((bs.length : Nat) : Int) % 64).toNat) = ((x / 2 ^ (64 - bs.length % 64) : Nat) : Int) := by
      rw [show (64 - ((bs.length : Nat) : Int) % 64).toNat = 64 - bs.length % 64 from by omega]; simp
    rw [hnews] at hown1
    have hO : Only (fun i => i = g ∨ (Value.slice (some ⟨g1, 0, none⟩) (q + 1) cap).ownBlock = some i) w w1 :=
      (((Only.of_grown hst.2).mono (T := fun i => i = g ∨ (Value.slice (some ⟨g1, 0, none⟩) (q + 1) cap).ownBlock = some i) (fun i _ hi => .inr hi.symm)).alloc (.cells #[.int .u64 ((x : Int) / 2 ^ (64 - ((bs.length : Nat) : Int) % 64).toNat)] 86)).drew.drew.trans (Only.of_grown hgr1) (fun i _ hi => .inr hi.symm)
    refine ⟨rfl, put_close hO hb1 ?_ ?_ (by rw [hlen]; omega)⟩
    · rw [hnw2, words_put_over bs x n HA.out hn hn' hx, List.map_append, List.map_set, ← HQ.out]; exact hown1
    · rcases hat1 with e | e
      · exact .inl e.symm
      · exact .inr ⟨g2, rfl, by omega⟩

/-- Put, whatever is right of it. -/
theorem put_ok (x n : Nat) (base g : Nat) (v : Value) (bs : List Bool) (w : World) (hx : x < 2 ^ n) (hn : n ≤ 64) (hl : bs.length + n ≤ 4294967296) (hb : BuilderAt w base g v bs) (hbase : base ≤ w.heap.size) :
    Calls Tryd.prog 39 #[.pointer (some ⟨g, 0, none⟩), .int .u64 (x : Int), .int .i64 (n : Nat)] w fun e w' => e = .returned (.int .i64 0) ∧
      PutDone w w' base g v (bs ++ bitsOf x n) := by
  rcases Nat.eq_zero_or_pos n with h0 | h0
  · subst h0
    have hx0 : x = 0 := by simpa using hx
    subst hx0
    refine (put_none g bs.length w (by omega) (by rw [hb.blk.cell 1]; rfl)).mono ?_
    rintro e w' ⟨rfl, rfl⟩
    exact ⟨rfl, v, by simpa [bitsOf] using hb, .inl rfl, Only.refl _ _⟩
  · by_cases ha : bs.length % 64 = 0
    · exact put_new x n base g v bs w hx h0 hn hl hb hbase ha
    · rcases Nat.lt_or_ge 64 (bs.length % 64 + n) with h | h
      · exact put_over x n base g v bs w hx hn hl hb hbase ha h
      · exact put_in x n base g v bs w hx h0 hl hb ha h

end Go.Proofs.YtacllonekidocaaDoor

/- Walks: a row of bits: how it is made, its length, its bits; Is. -/

set_option linter.unusedVariables false
set_option linter.unusedSimpArgs false
set_option maxRecDepth 100000
namespace Go.Proofs.YtacllonekidocaaDoor
open Go.RowKit L

def u64s (l : List Nat) : List Value := l.map (fun x => Value.int .u64 (x : Nat))
def bools (l : List Bool) : List Value := l.map Value.bool
theorem bools_length (l : List Bool) : (bools l).length = l.length := by simp [bools]
theorem bools_get (l : List Bool) {i : Nat} (h : i < l.length) : (bools l)[i]? = some (.bool (bitAt l i)) := by
  rw [bools, List.getElem?_map, bitAt_get l i h]; rfl

/-- A row of the bits bs at block g; its words lie from A on. -/
def RowAt (w : World) (g : Nat) (A : Option Addr) (c : Nat) (bs : List Bool) : Prop :=
  BlkIs w g 90 #[.slice A (nwords bs.length) c, .int .i64 (bs.length : Nat)] ∧ Lst w A (u64s (words bs)) ∧ bs.length ≤ 4294967296
section
variable {w : World} {g : Nat} {A : Option Addr} {c : Nat} {bs : List Bool}
theorem RowAt.blk (h : RowAt w g A c bs) : BlkIs w g 90 #[.slice A (nwords bs.length) c, .int .i64 (bs.length : Nat)] := h.1
theorem RowAt.lst (h : RowAt w g A c bs) : Lst w A (u64s (words bs)) := h.2.1
theorem RowAt.small (h : RowAt w g A c bs) : bs.length ≤ 4294967296 := h.2.2
theorem RowAt.mk (h1 : BlkIs w g 90 #[.slice A (nwords bs.length) c, .int .i64 (bs.length : Nat)]) (h2 : Lst w A (u64s (words bs))) (h3 : bs.length ≤ 4294967296) : RowAt w g A c bs := ⟨h1, h2, h3⟩
end
theorem RowAt.kept {w w' : World} {g : Nat} {A : Option Addr} {c : Nat} {bs : List Bool} (h : RowAt w g A c bs) (hg : w'.heap[g]? = w.heap[g]?) (hk : ∀ ad, A = some ad → ad.block < w.heap.size → w'.heap[ad.block]? = w.heap[ad.block]?) : RowAt w' g A c bs :=
  RowAt.mk (h.blk.kept hg) (h.lst.kept hk) h.small
theorem RowAt.below {w w' : World} {g : Nat} {A : Option Addr} {c : Nat} {bs : List Bool} (h : RowAt w g A c bs) (hb : Below w.heap.size w w') : RowAt w' g A c bs :=
  RowAt.mk (h.blk.below hb) (h.lst.below hb) h.small
theorem RowAt.only {w w' : World} {S : Nat → Prop} {g : Nat} {A : Option Addr} {c : Nat} {bs : List Bool} (h : RowAt w g A c bs) (hb : Only S w w') (h1 : ¬ S g) (h2 : ∀ ad, A = some ad → ¬ S ad.block) : RowAt w' g A c bs :=
  RowAt.mk (h.blk.only hb h1) (h.lst.only hb h2) h.small
theorem RowAt.cells {w : World} {g : Nat} {A : Option Addr} {c : Nat} {bs : List Bool} (h : RowAt w g A c bs) : w.cell? ⟨g, 0, none⟩ = some (.slice A (nwords bs.length) c) ∧ w.cell? ⟨g, 1, none⟩ = some (.int .i64 (bs.length : Nat)) :=
  ⟨by rw [h.blk.cell 0]; rfl, by rw [h.blk.cell 1]; rfl⟩

/-- A new row of these bits is handed back. -/
def NewRow (w : World) (bs : List Bool) (e : Ending) (w' : World) : Prop :=
  ∃ g A c, e = .returned (.pointer (some ⟨g, 0, none⟩)) ∧ RowAt w' g A c bs ∧ w.heap.size ≤ g ∧ (∀ ad, A = some ad → w.heap.size ≤ ad.block) ∧ Below w.heap.size w w'

/-- A new slice of these cells is handed back. -/
def NewSlice (w : World) (n : Nat) (xs : List Value) (e : Ending) (w' : World) : Prop :=
  ∃ A c, e = .returned (.slice A n c) ∧ Lst w' A xs ∧ (∀ ad, A = some ad → w.heap.size ≤ ad.block) ∧ Below w.heap.size w w' ∧ n ≤ c

theorem lst_none {w : World} {xs : List Value} (h : Lst w none xs) : xs = [] := by
  cases xs with
  | nil => rfl
  | cons x l => obtain ⟨_, h, _⟩ := h 0 x rfl; cases h

theorem u64s_one (l : List Nat) : ∀ u ∈ u64s l, u.oneCell' = true := by
  intro u hu
  obtain ⟨x, _, rfl⟩ := List.mem_map.1 hu
  rfl
theorem bools_one (l : List Bool) : ∀ u ∈ bools l, u.oneCell' = true := by
  intro u hu
  obtain ⟨x, _, rfl⟩ := List.mem_map.1 hu
  rfl

set_option maxHeartbeats 400000 in
theorem clone_any (A : Option Addr) (n c : Nat) (xs : List Value) (w : World) (hr : Lst w A xs) (hl : xs.length = n) (h1 : ∀ u ∈ xs, u.oneCell' = true) (hn : n ≤ 67108864) :
    Calls Tryd.prog 42 #[.slice A n c] w (NewSlice w n xs) := by
  have he := fun (W : World) => Lib.run_eql_slice_nil (P := Tryd.prog) W 60 86 A n c 0 0 Tryd.underlying60
  obtain ⟨i0, hi0, hz0, hz1, hz2⟩ := info_parts Tryd.infoU64
  rcases A with _ | ad
  · have hx := lst_none hr
    subst hx
    simp only [List.length_nil] at hl
    subst hl
    go_enter Tryd.func42, Tryd.ntmps42
    go_wp2
    go_ret
    exact ⟨none, 0, rfl, Lst.nil_ _ _, (fun ad h => by cases h), Below.refl _ _, Nat.le_refl _⟩
  · go_enter Tryd.func42, Tryd.ntmps42
    go_wp2_with (at_builtin
                 refine wpList_append_more _ rfl (.tmp 5) (.tmp 6) _ rfl w.heap.size 86 i0 _ 8 Tryd.underlying60 hi0 hz0 hz1 hz2 rfl (.slice (some ⟨w.heap.size, 0, none⟩) 0 0) 0 [] rfl (own_empty w _ _ (Nat.le_refl _)) (some ad) n c xs rfl (hr.alloc _) hl h1 ?h63 ?hby ?hbs _ rfl ?_
                 case h63 => simp only [maxLen]; omega
                 case hby => omega
                 case hbs => simp
                 intro A1 c1 w1 hown1 hgr1 hat1)
    go_ret
    refine ⟨A1, c1, ?_, own_lst hown1, own_base hown1, ((Below.refl _ _).alloc (Nat.le_refl _) _).grown hgr1 (by simp) (fun k hk => ?_), ?_⟩
    · simp
    · have hk' : w.heap.size = k := by simpa [Value.ownBlock] using hk
      omega
    · have := own_cap hown1; omega

set_option maxHeartbeats 400000 in
theorem blen_any (g : Nat) (n : Int) (w : World) (hc : w.cell? ⟨g, 1, none⟩ = some (.int .i64 n)) :
    Calls Tryd.prog 28 #[.pointer (some ⟨g, 0, none⟩)] w fun e w' => e = .returned (.int .i64 n) ∧ w = w' := by
  go_enter Tryd.func28, Tryd.ntmps28
  go_wp2
  go_ret
  exact ⟨rfl, rfl⟩

set_option maxHeartbeats 400000 in
theorem rlen_any (g : Nat) (n : Int) (w : World) (hc : w.cell? ⟨g, 1, none⟩ = some (.int .i64 n)) :
    Calls Tryd.prog 41 #[.pointer (some ⟨g, 0, none⟩)] w fun e w' => e = .returned (.int .i64 n) ∧ w = w' := by
  go_enter Tryd.func41, Tryd.ntmps41
  go_wp2
  go_ret
  exact ⟨rfl, rfl⟩

/-- A row's bit, at any place. -/
def rowBit (bs : List Bool) (i : Int) : Bool := decide (0 ≤ i) && bitAt bs i.toNat

/-- A builder's row: its bits as they are now; they stay. -/
theorem row_any (base g : Nat) (v : Value) (bs : List Bool) (w : World) (hb : BuilderAt w base g v bs) (hs : bs.length ≤ 4294967296) :
    Calls Tryd.prog 30 #[.pointer (some ⟨g, 0, none⟩)] w (NewRow w bs) := by
  obtain ⟨A, c, rfl⟩ := own_slice hb.own
  have c0 := hb.blk.cell 0
  have c1 := hb.blk.cell 1
  simp only [List.getElem?_toArray, List.getElem?_cons_zero, List.getElem?_cons_succ] at c0 c1
  have hg := hb.blk.lt
  have hlst := own_lst hb.own
  have hnw : nwords bs.length ≤ 67108864 := by unfold nwords; omega
  go_enter Tryd.func30, Tryd.ntmps30
  go_wp2
  go_region_held3 (fun w' => w'.cell? ⟨g, 0, none⟩ = some (.slice A (nwords bs.length) c) ∧ w'.cell? ⟨g, 1, none⟩ = some (.int .i64 (bs.length : Nat))) (first | go_keep | exact ⟨k0, k1⟩)
    (first | (go_at_call 42; refine (clone_any A _ c (u64s (words bs)) _ (by exact hlst) (by simp [u64s, words_length]) (u64s_one _) hnw).mono ?_; rintro e w1 ⟨A1, c1', rfl, hl1, hn1, hb1, _⟩; have k0 := (hb1.cell (p := ⟨g, 0, none⟩) hg).trans c0; have k1 := (hb1.cell (p := ⟨g, 1, none⟩) hg).trans c1))
  go_wp2
  go_ret
  have hz := hb1.size
  refine ⟨w1.heap.size, A1, c1', rfl, RowAt.mk (BlkIs.new _ _ _) (hl1.alloc _) hs, hz, hn1, ?_⟩
  exact (show Below w.heap.size w w1 from ⟨hb1.os, hb1.tape, hb1.output, hb1.size, hb1.block⟩).alloc hz _

end Go.Proofs.YtacllonekidocaaDoor

/- Walks: the reference's Put and All; a row made of bits. -/

set_option linter.unusedVariables false
set_option linter.unusedSimpArgs false
set_option maxRecDepth 100000
namespace Go.Proofs.YtacllonekidocaaDoor
open Go.RowKit L

theorem Tryd.infoBool : (Tryd.prog.info? 4).map (fun i => (i.zero, i.size, i.bytes)) = some (some (.bool false), 1, 1) := by kernel_rfl

theorem L.bitsOf_succ (x k : Nat) : bitsOf x (k + 1) = bitsOf x k ++ [x.testBit k] := by simp [bitsOf, List.range_succ]
theorem bools_append (a b : List Bool) : bools (a ++ b) = bools a ++ bools b := by simp [bools]

end Go.Proofs.YtacllonekidocaaDoor

/- Walks: awake of layer 2; Put and the reference's Put at whatever arguments; memory beside a builder. -/

set_option linter.unusedVariables false
set_option linter.unusedSimpArgs false
set_option maxRecDepth 100000
namespace Go.Proofs.YtacllonekidocaaDoor
open Go.RowKit L

/-- A list that is not empty lies at a plain address. -/
theorem Lst.lit {w : World} {A : Option Addr} {xs : List Value} (h : Lst w A xs) (hx : 0 < xs.length) : ∃ b off, A = some ⟨b, off, none⟩ ∧ b < w.heap.size ∧ ∀ j u, xs[j]? = some u → w.cell? ⟨b, off + j, none⟩ = some u := by
  obtain ⟨ad, rfl, hc⟩ := h 0 _ (List.getElem?_eq_getElem hx)
  obtain ⟨b, off, spot⟩ := ad
  have hspot : spot = none := by simpa [Addr.add] using World.cell?_spot hc
  subst hspot
  have hb := World.block_lt_of_cell? w _ hc
  rw [block_of_add] at hb
  exact ⟨b, off, rfl, hb, fun j u hu => by have := h.addr hu; rwa [Addr.add_lit] at this⟩

theorem Only.of_drew {S : Nat → Prop} {w w' : World} (h : Only S w.drew w') : Only S w w' := ⟨h.os, h.tape, h.output, h.size, h.block⟩
theorem Only.of_drewN {S : Nat → Prop} {w w' : World} {n : Nat} (h : Only S (w.drewN n) w') : Only S w w' := ⟨h.os, h.tape, h.output, h.size, h.block⟩
theorem below_of_drew {B : Nat} {w w' : World} (h : Below B w.drew w') : Below B w w' := ⟨h.os, h.tape, h.output, h.size, h.block⟩
theorem below_of_drewN {B : Nat} {w w' : World} {n : Nat} (h : Below B (w.drewN n) w') : Below B w w' := ⟨h.os, h.tape, h.output, h.size, h.block⟩

/-- A Put that can't be. -/
def badOp (o : Nat × Int) : Prop := o.2 < 0 ∨ 64 < o.2 ∨ o.2 < need o.1
instance (o : Nat × Int) : Decidable (badOp o) := inferInstanceAs (Decidable (_ ∨ _ ∨ _))
def stepPut (bs : List Bool) (o : Nat × Int) : List Bool := if badOp o then bs else bs ++ bitsOf o.1 o.2.toNat
def putCode (o : Nat × Int) : Int := if badOp o then 1 else 0
theorem stepPut_length (bs : List Bool) (o : Nat × Int) : (stepPut bs o).length ≤ bs.length + 64 := by
  unfold stepPut
  split
  · omega
  · rename_i h
    unfold badOp at h
    rw [List.length_append, bitsOf_length]; omega

theorem put_any (o : Nat × Int) (base g : Nat) (v : Value) (bs : List Bool) (w : World) (hx : o.1 < 18446744073709551616) (hl : bs.length + 64 ≤ 4294967296) (hb : BuilderAt w base g v bs) (hbase : base ≤ w.heap.size) :
    Calls Tryd.prog 39 #[.pointer (some ⟨g, 0, none⟩), .int .u64 (o.1 : Nat), .int .i64 o.2] w fun e w' => e = .returned (.int .i64 (putCode o)) ∧ PutDone w w' base g v (stepPut bs o) := by
  obtain ⟨x, n⟩ := o
  by_cases h : badOp (x, n)
  · rw [putCode, stepPut, if_pos h, if_pos h]
    refine (put_arg x n g w hx h).mono ?_
    rintro e w' ⟨rfl, rfl⟩
    exact ⟨rfl, v, hb, .inl rfl, Only.refl _ _⟩
  · rw [putCode, stepPut, if_neg h, if_neg h]
    unfold badOp at h
    simp only at h hx
    obtain ⟨k, rfl⟩ := Int.eq_ofNat_of_zero_le (show 0 ≤ n by omega)
    exact put_ok x k base g v bs w ((need_le_iff x k hx).1 (by omega)) (by omega) (by omega) hb hbase

/-- A list that lies apart from a builder's blocks. -/
def LstFar (w : World) (g : Nat) (v : Value) (A : Option Addr) (xs : List Value) : Prop := Lst w A xs ∧ ∀ ad, A = some ad → xs ≠ [] → ad.block ≠ g ∧ v.ownBlock ≠ some ad.block
theorem lst_lt {w : World} {ad : Addr} {xs : List Value} (h : Lst w (some ad) xs) (hx : xs ≠ []) : ad.block < w.heap.size := by
  cases xs with
  | nil => exact absurd rfl hx
  | cons x l =>
    have := World.block_lt_of_cell? w _ (h.addr (i := 0) (u := x) rfl)
    rwa [block_of_add] at this
theorem LstFar.put {w w' : World} {base g : Nat} {v v' : Value} {bs' : List Bool} {A : Option Addr} {xs : List Value} (h : LstFar w g v A xs) (hat : v'.ownBlock = v.ownBlock ∨ ∃ k, v'.ownBlock = some k ∧ w.heap.size ≤ k) (ho : Only (fun i => i = g ∨ v.ownBlock = some i) w w') :
    LstFar w' g v' A xs := by
  by_cases hx : xs = []
  · subst hx; exact ⟨Lst.nil_ _ _, fun _ _ h => absurd rfl h⟩
  · refine ⟨h.1.only ho (fun ad e hs => ?_), fun ad e _ => ?_⟩
    · have := h.2 ad e hx
      rcases hs with hs | hs
      · exact this.1 hs
      · exact this.2 hs
    · have := h.2 ad e hx
      refine ⟨this.1, ?_⟩
      rcases hat with h1 | ⟨k, h1, h2⟩
      · rw [h1]; exact this.2
      · rw [h1]
        intro h3
        subst e
        have := lst_lt h.1 hx
        injection h3 with h3
        omega
theorem LstFar.below {w w' : World} {g : Nat} {v : Value} {A : Option Addr} {xs : List Value} (h : LstFar w g v A xs) (hb : Below w.heap.size w w') : LstFar w' g v A xs := ⟨h.1.below hb, h.2⟩
theorem LstFar.new {w w' : World} {base g : Nat} {v : Value} {bs : List Bool} {A : Option Addr} {xs : List Value} (h : Lst w' A xs) (hA : ∀ ad, A = some ad → w.heap.size ≤ ad.block) (hb : BuilderAt w base g v bs) : LstFar w' g v A xs :=
  ⟨h, fun ad e _ => by
    have h1 := hA ad e
    have h2 := hb.blk.lt
    refine ⟨by omega, fun h3 => ?_⟩
    have := (hb.own.lt _ h3).2
    omega⟩
theorem LstFar.lst {w : World} {g : Nat} {v : Value} {A : Option Addr} {xs : List Value} (h : LstFar w g v A xs) : Lst w A xs := h.1

/-- A row apart from a builder's blocks. -/
def RowFar (w : World) (g : Nat) (v : Value) (gx : Nat) (Ax : Option Addr) (cx : Nat) (ts : List Bool) : Prop := RowAt w gx Ax cx ts ∧ LstFar w g v Ax (u64s (words ts))
theorem RowFar.row {w : World} {g : Nat} {v : Value} {gx : Nat} {Ax : Option Addr} {cx : Nat} {ts : List Bool} (h : RowFar w g v gx Ax cx ts) : RowAt w gx Ax cx ts := h.1
theorem RowFar.put {w w' : World} {base g : Nat} {v v' : Value} {bs : List Bool} {gx : Nat} {Ax : Option Addr} {cx : Nat} {ts : List Bool} (h : RowFar w g v gx Ax cx ts) (hb : BuilderAt w base g v bs)
    (hat : v'.ownBlock = v.ownBlock ∨ ∃ k, v'.ownBlock = some k ∧ w.heap.size ≤ k) (ho : Only (fun i => i = g ∨ v.ownBlock = some i) w w') : RowFar w' g v' gx Ax cx ts := by
  have hl := h.2.put (base := base) (bs' := bs) hat ho
  refine ⟨RowAt.mk (h.1.blk.only ho ?_) hl.1 h.1.small, hl⟩
  rintro (e | e)
  · exact h.1.blk.ne_ hb.blk (by decide) e
  · exact h.1.blk.ne_own hb.own (by decide) e
theorem RowFar.below {w w' : World} {g : Nat} {v : Value} {gx : Nat} {Ax : Option Addr} {cx : Nat} {ts : List Bool} (h : RowFar w g v gx Ax cx ts) (hb : Below w.heap.size w w') : RowFar w' g v gx Ax cx ts := ⟨h.1.below hb, h.2.below hb⟩
theorem RowFar.new {w w' : World} {base g : Nat} {v : Value} {bs : List Bool} {gx : Nat} {Ax : Option Addr} {cx : Nat} {ts : List Bool} (h : RowAt w' gx Ax cx ts) (hA : ∀ ad, Ax = some ad → w.heap.size ≤ ad.block) (hb : BuilderAt w base g v bs) : RowFar w' g v gx Ax cx ts :=
  ⟨h, LstFar.new h.lst hA hb⟩

theorem BuilderAt.below {w w' : World} {base g : Nat} {v : Value} {bs : List Bool} (h : BuilderAt w base g v bs) (hb : Below w.heap.size w w') : BuilderAt w' base g v bs :=
  BuilderAt.mk (h.blk.below hb) (own_only h.own (Only.of_below (S := fun _ => False) hb) (fun _ _ => id))

/-- A builder that has just been made. -/
theorem BuilderAt.new_at (w : World) (base k : Nat) (hk : k = w.heap.size) : BuilderAt (w.alloc (.cells #[.slice none 0 0, .int .i64 0] 62)) base k (.slice none 0 0) [] := by
  subst hk
  exact BuilderAt.mk (BlkIs.new _ _ _) (World.ownsRow_nil _ _ _ _)

end Go.Proofs.YtacllonekidocaaDoor

/- Walks: a bit put; a row made of bits; all Puts of the reference; numbers of eight bytes. -/


set_option linter.unusedVariables false
set_option linter.unusedSimpArgs false
set_option maxRecDepth 100000
namespace Go.Proofs.YtacllonekidocaaDoor
open Go.RowKit L

def opCells (l : List (Nat × Int)) : List Value := l.flatMap fun o => [.int .u64 (o.1 : Nat), .int .i64 o.2]
theorem opCells_get : ∀ (l : List (Nat × Int)) (k : Nat) (h : k < l.length), (opCells l)[k * 2]? = some (.int .u64 (l[k].1 : Nat)) ∧ (opCells l)[k * 2 + 1]? = some (.int .i64 l[k].2)
  | o :: l, 0, _ => by simp [opCells]
  | o :: l, k + 1, h => by
    have ih := opCells_get l k (by simpa using h)
    rw [show (k + 1) * 2 = k * 2 + 2 from by omega]
    simpa [opCells] using ih
def allPuts (l : List (Nat × Int)) : List Bool := l.foldl stepPut []
theorem foldl_stepPut_length : ∀ (l : List (Nat × Int)) (bs : List Bool), (l.foldl stepPut bs).length ≤ bs.length + 64 * l.length
  | [], bs => by simp
  | o :: l, bs => by
    have h1 := foldl_stepPut_length l (stepPut bs o)
    have h2 := stepPut_length bs o
    simp only [List.foldl_cons, List.length_cons]; omega
theorem allPuts_length (l : List (Nat × Int)) : (allPuts l).length ≤ 64 * l.length := by have := foldl_stepPut_length l []; simpa [allPuts] using this
theorem allPuts_succ (l : List (Nat × Int)) (k : Nat) (h : k < l.length) : allPuts (l.take (k + 1)) = stepPut (allPuts (l.take k)) l[k] := by
  unfold allPuts
  rw [List.take_succ_eq_append_getElem h, List.foldl_append]; rfl

set_option maxHeartbeats 400000 in
theorem bit_any (one : Bool) (base g : Nat) (v : Value) (bs : List Bool) (w : World) (hl : bs.length + 1 ≤ 4294967296) (hb : BuilderAt w base g v bs) (hbase : base ≤ w.heap.size) :
    Calls Tryd.prog 26 #[.pointer (some ⟨g, 0, none⟩), .bool one] w fun e w' => e = .returned (.int .i64 0) ∧ PutDone w w' base g v (bs ++ [one]) := by
  cases one
  · go_enter Tryd.func26, Tryd.ntmps26
    go_wp2_with fail
    refine (put_ok 0 1 base g v bs _ (by decide) (by decide) hl hb hbase).mono ?_
    rintro e w1 ⟨rfl, h⟩
    go_wp2
    go_ret
    exact ⟨rfl, h⟩
  · go_enter Tryd.func26, Tryd.ntmps26
    go_wp2_with fail
    refine (put_ok 1 1 base g v bs _ (by decide) (by decide) hl hb hbase).mono ?_
    rintro e w1 ⟨rfl, h⟩
    go_wp2
    go_ret
    exact ⟨rfl, h⟩

theorem putDone_below {w w' : World} {base B g : Nat} {v : Value} {bs : List Bool} (hb : BuilderAt w base g v bs) (hg : B ≤ g) (hbase : B ≤ base) (hB : B ≤ w.heap.size) (ho : Only (fun i => i = g ∨ v.ownBlock = some i) w w') : Below B w w' :=
  ho.below (fun i hi => by
    rcases hi with hi | hi
    · omega
    · have := (hb.own.lt _ hi).1; omega) hB

theorem L.nest_snoc : ∀ (l : List Nat) (b : Nat), nest (l ++ [b]) = nest l + 2 ^ (8 * l.length) * b
  | [], b => by simp [nest]
  | a :: l, b => by
    have := nest_snoc l b
    rw [List.cons_append, nest, nest, this, List.length_cons, show 8 * (l.length + 1) = 8 + 8 * l.length from by omega, Nat.pow_add]
    rw [Nat.mul_add, show (2 : Nat) ^ 8 = 256 from by decide, Nat.mul_assoc]; omega

theorem L.leTo_lt (s : ByteArray) (k : Nat) : leTo s k < 2 ^ (8 * k) := by
  have h := nest_lt (nats (s.data.toList.take k)) (nats_lt _)
  have h2 : (nats (s.data.toList.take k)).length ≤ k := by simp [nats, List.length_take]; omega
  have h3 : (256 : Nat) ^ (nats (s.data.toList.take k)).length ≤ 256 ^ k := Nat.pow_le_pow_right (by omega) h2
  rw [Nat.pow_mul, show (2 : Nat) ^ 8 = 256 from by decide]
  unfold leTo; omega

theorem L.leTo_succ (s : ByteArray) (k : Nat) (h : k < s.size) (hk : k < 8) : leTo s (k + 1) = leTo s k ||| (s[k].toNat * 2 ^ (8 * k) % 18446744073709551616) := by
  have e : nats (s.data.toList.take (k + 1)) = nats (s.data.toList.take k) ++ [s[k].toNat] := by
    rw [List.take_succ_eq_append_getElem (by simpa using h), nats, List.map_append]; rfl
  have hl : (nats (s.data.toList.take k)).length = k := by
    simp only [nats, List.length_map, List.length_take, Array.length_toList]
    have : s.data.size = s.size := rfl
    omega
  have hlt := leTo_lt s k
  have hb : s[k].toNat < 256 := UInt8.toNat_lt _
  have hm : s[k].toNat * 2 ^ (8 * k) % 18446744073709551616 = s[k].toNat * 2 ^ (8 * k) := by
    apply Nat.mod_eq_of_lt
    have h1 : (2 : Nat) ^ (8 * k) ≤ 2 ^ 56 := Nat.pow_le_pow_right (by omega) (by omega)
    have h2 : (2 : Nat) ^ 56 * 256 = 18446744073709551616 := by decide
    calc s[k].toNat * 2 ^ (8 * k) ≤ s[k].toNat * 2 ^ 56 := Nat.mul_le_mul_left _ h1
      _ < 2 ^ 56 * 256 := by omega
      _ = _ := h2
  rw [hm, Nat.or_comm, nat_join (8 * k) _ _ (by simp) hlt]
  unfold leTo
  rw [e, nest_snoc, hl, Nat.mul_comm]; omega

end Go.Proofs.YtacllonekidocaaDoor

/- Walks: a strings.Builder's bytes; a row's bytes. -/


set_option linter.unusedVariables false
set_option linter.unusedSimpArgs false
set_option maxRecDepth 100000
namespace Go.Proofs.YtacllonekidocaaDoor
open Go.RowKit L

theorem Tryd.infoU8 : (Tryd.prog.info? 5).map (fun i => (i.zero, i.size, i.bytes)) = some (some (.int .u8 0), 1, 1) := by kernel_rfl

/-- The eight bytes of a number, the least first. -/
def le8 (v : Nat) : List UInt8 := (List.range 8).map fun i => UInt8.ofNat (v / 256 ^ i)

end Go.Proofs.YtacllonekidocaaDoor

/- Walks: a row's fields, words, parts and bytes. -/


set_option linter.unusedVariables false
set_option linter.unusedSimpArgs false
set_option maxRecDepth 100000
namespace Go.Proofs.YtacllonekidocaaDoor
open Go.RowKit L

theorem shut_bytes (l : List UInt8) : Ending.returned (.string ⟨l.toArray⟩) = .returned (.string ⟨l.toArray⟩) := rfl

set_option maxHeartbeats 1000000 in
/-- Some bits that there are. -/
theorem rfield_any (g : Nat) (A : Option Addr) (c : Nat) (bs : List Bool) (p n : Nat) (w : World) (hr : RowAt w g A c bs) (hn : n ≤ 64) (h : p + n ≤ bs.length) :
    Calls Tryd.prog 70 #[.pointer (some ⟨g, 0, none⟩), .int .i64 (p : Nat), .int .i64 (n : Nat)] w fun e w' => e = .returned (.int .u64 (fld bs p n : Nat)) ∧ ∃ m, w' = w.drewN m := by
  obtain ⟨c0, c1⟩ := hr.cells
  have hsm := hr.small
  rcases Nat.eq_zero_or_pos n with h0 | h0
  · subst h0
    go_enter Tryd.func70, Tryd.ntmps70
    go_wp2
    go_ret
    exact ⟨by rw [fld_zero]; rfl, drew_some _⟩
  · have hi : p / 64 < nwords bs.length := by unfold nwords; omega
    have q0 : (u64s (words bs))[p / 64]? = some (.int .u64 (wordAt bs (p / 64) : Nat)) := by rw [u64s, List.getElem?_map, words_get _ hi]; rfl
    have hlst := hr.lst
    obtain ⟨ab, ao, rfl, had, hcl⟩ := hlst.lit (by have := (List.getElem?_eq_some_iff.1 q0).1; omega)
    have wc := hcl _ _ q0
    have hn0 : ((n : Int) == 0) = false := by rw [beq_eq_false_iff_ne]; omega
    have hi2 : (p : Int) / 64 < (nwords bs.length : Int) := by omega
    rcases Nat.lt_or_ge 64 (p % 64 + n) with h1 | h1
    · have hi3 : p / 64 + 1 < nwords bs.length := by unfold nwords; omega
      have q1 : (u64s (words bs))[p / 64 + 1]? = some (.int .u64 (wordAt bs (p / 64 + 1) : Nat)) := by rw [u64s, List.getElem?_map, words_get _ hi3]; rfl
      have wc1 := hcl _ _ q1
      have hi4 : (p : Int) / 64 + 1 < (nwords bs.length : Int) := by omega
      have H := hid (field_over bs p n hn h1)
      have ht : 64 < (p : Int) % 64 + (n : Int) := by omega
      clear hr hlst hcl q0 q1 hi hi3 h1
      go_enter Tryd.func70, Tryd.ntmps70
      go_wp2_with fail
      refine (field_any (wordAt bs (p / 64)) _ _ _ (wordAt_lt _ _)).mono ?_
      rintro e w' ⟨rfl, m, rfl⟩
      go_wp2_with fail
      refine (field_any (wordAt bs (p / 64 + 1)) _ _ _ (wordAt_lt _ _)).mono ?_
      rintro e w' ⟨rfl, m2, rfl⟩
      go_wp2
      go_ret
      refine ⟨ret_int' ?_, _, rfl⟩
      rw [or_shl _ _ _ (fieldN_lt _ _ _ (wordAt_lt _ _)), ← H.out, show (p : Int) % 64 + (n : Int) - 64 = ((p % 64 + n - 64 : Nat) : Int) from by omega]
      rfl
    · have H := hid (field_in bs p n h0 h1)
      have ht : (p : Int) % 64 + (n : Int) ≤ 64 := by omega
      clear hr hlst hcl q0 hi h1
      go_enter Tryd.func70, Tryd.ntmps70
      go_wp2_with fail
      refine (field_any (wordAt bs (p / 64)) _ _ _ (wordAt_lt _ _)).mono ?_
      rintro e w' ⟨rfl, m, rfl⟩
      go_wp2
      go_ret
      refine ⟨ret_int' ?_, _, rfl⟩
      rw [← H.out]; rfl

set_option maxHeartbeats 400000 in
theorem rField_arg (g : Nat) (p n : Int) (w : World) (h : n < 0 ∨ 64 < n) :
    Calls Tryd.prog 49 #[.pointer (some ⟨g, 0, none⟩), .int .i64 p, .int .i64 n] w fun e w' => e = .returned (.tuple #[.int .u64 0, .int .i64 1]) ∧ w = w' := by
  rcases h with h | h
  · go_enter Tryd.func49, Tryd.ntmps49
    go_wp2
    go_ret2
    exact ⟨rfl, rfl⟩
  · have h0 : 0 ≤ n := by omega
    go_enter Tryd.func49, Tryd.ntmps49
    go_wp2
    go_ret2
    exact ⟨rfl, rfl⟩

set_option maxHeartbeats 400000 in
theorem rField_range (g : Nat) (A : Option Addr) (c : Nat) (bs : List Bool) (p n : Int) (w : World) (hr : RowAt w g A c bs) (hn : 0 ≤ n) (hn' : n ≤ 64) (h : p < 0 ∨ bs.length - n < p) :
    Calls Tryd.prog 49 #[.pointer (some ⟨g, 0, none⟩), .int .i64 p, .int .i64 n] w fun e w' => e = .returned (.tuple #[.int .u64 0, .int .i64 2]) ∧ w = w' := by
  obtain ⟨c0, c1⟩ := hr.cells
  have hsm := hr.small
  rcases Int.lt_or_le p 0 with h1 | h1
  · go_enter Tryd.func49, Tryd.ntmps49
    go_wp2
    go_ret2
    exact ⟨rfl, rfl⟩
  · have h2 : (bs.length : Int) - n < p := by omega
    clear h
    go_enter Tryd.func49, Tryd.ntmps49
    go_wp2
    go_ret2
    exact ⟨rfl, rfl⟩

set_option maxHeartbeats 400000 in
theorem rField_ok (g : Nat) (A : Option Addr) (c : Nat) (bs : List Bool) (p n : Nat) (w : World) (hr : RowAt w g A c bs) (hn : n ≤ 64) (h : p + n ≤ bs.length) :
    Calls Tryd.prog 49 #[.pointer (some ⟨g, 0, none⟩), .int .i64 (p : Nat), .int .i64 (n : Nat)] w fun e w' => e = .returned (.tuple #[.int .u64 (fld bs p n : Nat), .int .i64 0]) ∧ ∃ m, w' = w.drewN m := by
  obtain ⟨c0, c1⟩ := hr.cells
  have hsm := hr.small
  have h2 : (p : Int) ≤ (bs.length : Int) - (n : Int) := by omega
  have h3 : (n : Int) ≤ 64 := by omega
  go_enter Tryd.func49, Tryd.ntmps49
  go_wp2_with (go_at_call 70; refine (rfield_any g A c bs p n _ hr hn h).mono ?_; rintro e w' ⟨rfl, m, rfl⟩)
  go_ret2
  exact ⟨rfl, _, rfl⟩

set_option maxHeartbeats 400000 in
theorem rword_any (g : Nat) (A : Option Addr) (c : Nat) (bs : List Bool) (i : Int) (w : World) (hr : RowAt w g A c bs) :
    Calls Tryd.prog 46 #[.pointer (some ⟨g, 0, none⟩), .int .i64 i] w fun e w' => e = .returned (.int .u64 (wordI bs i : Nat)) ∧ w = w' := by
  obtain ⟨c0, c1⟩ := hr.cells
  have hsm := hr.small
  rcases Int.lt_or_le i 0 with h1 | h1
  · rw [show wordI bs i = 0 from by unfold wordI; rw [if_pos h1]]
    go_enter Tryd.func46, Tryd.ntmps46
    go_wp2
    go_ret
    exact ⟨rfl, rfl⟩
  · obtain ⟨k, rfl⟩ := Int.eq_ofNat_of_zero_le h1
    rw [wordI_nat]
    rcases Nat.lt_or_ge k (nwords bs.length) with h2 | h2
    · have q0 : (u64s (words bs))[k]? = some (.int .u64 (wordAt bs k : Nat)) := by rw [u64s, List.getElem?_map, words_get _ h2]; rfl
      have hlst := hr.lst
      obtain ⟨ab, ao, rfl, had, hcl⟩ := hlst.lit (by have := (List.getElem?_eq_some_iff.1 q0).1; omega)
      have wc := hcl _ _ q0
      have h3 : (k : Int) < (nwords bs.length : Int) := by omega
      clear hcl q0 hlst hr
      go_enter Tryd.func46, Tryd.ntmps46
      go_wp2
      go_ret
      exact ⟨rfl, rfl⟩
    · have e : wordAt bs k = 0 := by
        unfold wordAt
        rw [List.drop_eq_nil_of_le (by unfold nwords at h2; omega)]; rfl
      rw [e]
      have h3 : (nwords bs.length : Int) ≤ (k : Int) := by omega
      go_enter Tryd.func46, Tryd.ntmps46
      go_wp2
      go_ret
      exact ⟨rfl, rfl⟩

/-- A part's ends. -/
def cutLo (n : Nat) (a : Int) : Nat := (min (max a 0) n).toNat
def cutHi (n : Nat) (a b : Int) : Nat := (min (max b (cutLo n a : Nat)) n).toNat
theorem cut_bd (n : Nat) (a b : Int) : cutLo n a ≤ cutHi n a b ∧ cutHi n a b ≤ n := by unfold cutHi cutLo; omega

end Go.Proofs.YtacllonekidocaaDoor

/- Walks: the reference's fields, words and bytes of a row. -/


set_option linter.unusedVariables false
set_option linter.unusedSimpArgs false
set_option maxRecDepth 100000
namespace Go.Proofs.YtacllonekidocaaDoor
open Go.RowKit L

theorem or_pow (a i : Nat) (ha : a < 18446744073709551616) (hi : i < 64) : bits BinOp.or IntKind.u64 (a : Int) (IntKind.u64.wrap (2 ^ i)) = ((a ||| 2 ^ i : Nat) : Int) := by
  have h := pow_lt64 hi
  have e : IntKind.u64.wrap (2 ^ i) = ((2 ^ i : Nat) : Int) := by
    rw [IntKind.wrap_u64, show ((2 : Int) ^ i) = ((2 ^ i : Nat) : Int) from by simp]
    generalize (2 : Nat) ^ i = q at h ⊢
    omega
  rw [e]; exact u64_or_nat _ _ ha h

end Go.Proofs.YtacllonekidocaaDoor
