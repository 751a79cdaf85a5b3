/- Walks: a row's directory (rank). -/
import Derived.Test.YtlpnbkfcbamnbaaDoorBitsI
import Derived.Test.YtlpnbkfcbamnbaaDoorMath6
import Derived.Deep.AppendLies
set_option linter.unusedVariables false
set_option linter.unusedSimpArgs false
set_option maxRecDepth 100000
namespace Go.Proofs.YtlpnbkfcbamnbaaDoor
open Go.RowKit L

theorem Tryd.infoEntry : (Tryd.prog.info? 151).map (fun i => (i.zero, i.size, i.bytes)) = some (some (.agg #[.int .u64 0, .int .u64 0]), 2, 16) := by kernel_rfl

/-- A directory that lies in memory. -/
def DirAt (w : World) (g gx : Nat) (A : Option Addr) (c : Nat) (bs : List Bool) (Ad : Option Addr) (cd : Nat) : Prop :=
  BlkIs w g 149 #[.pointer (some ⟨gx, 0, none⟩), .slice Ad (bs.length / 512 + 1) cd] ∧ Lst w Ad (u64s (entries bs (bs.length / 512 + 1))) ∧ RowAt w gx A c bs
section
variable {w : World} {g gx : Nat} {A : Option Addr} {c : Nat} {bs : List Bool} {Ad : Option Addr} {cd : Nat}
theorem DirAt.blk (h : DirAt w g gx A c bs Ad cd) : BlkIs w g 149 #[.pointer (some ⟨gx, 0, none⟩), .slice Ad (bs.length / 512 + 1) cd] := h.1
theorem DirAt.lst (h : DirAt w g gx A c bs Ad cd) : Lst w Ad (u64s (entries bs (bs.length / 512 + 1))) := h.2.1
theorem DirAt.row (h : DirAt w g gx A c bs Ad cd) : RowAt w gx A c bs := h.2.2
theorem DirAt.below {w' : World} (h : DirAt w g gx A c bs Ad cd) (hb : Below w.heap.size w w') : DirAt w' g gx A c bs Ad cd := ⟨h.1.below hb, h.2.1.below hb, h.2.2.below hb⟩
end

theorem cell_two_at (w : World) (x y : Value) (e : TypeId) (k : Nat) (hk : k = w.heap.size) : ∀ j u, [x, y][j]? = some u → (w.alloc (.cells #[x, y] e)).cell? ((⟨k, 0, none⟩ : Addr).add j) = some u := by
  subst hk
  intro j u hu
  rw [add_zero_, (BlkIs.new w e #[x, y]).cell j]
  simpa using hu

theorem packed_orI (bs : List Bool) (b j n : Nat) (hn : n = cnt bs (512 * b + 64 * (j + 1)) - cnt bs (512 * b)) (h : j < 7) : bits BinOp.or IntKind.u64 (packed bs b j : Int) (IntKind.u64.wrap ((n : Int) * 2 ^ (9 * j))) = ((packed bs b (j + 1) : Nat) : Int) := by
  have h1 := packed_lt64 bs b j (by omega)
  rw [or_shl _ _ _ (by omega), hn, packed_or bs b j h]

set_option maxHeartbeats 4000000 in
theorem rankNew_any (gx : Nat) (A : Option Addr) (c : Nat) (bs : List Bool) (w : World) (hr : RowAt w gx A c bs) :
    Calls Tryd.prog 108 #[.pointer (some ⟨gx, 0, none⟩)] w fun e w' => ∃ Ad cd, e = .returned (.pointer (some ⟨w.heap.size, 0, none⟩)) ∧ DirAt w' w.heap.size gx A c bs Ad cd ∧ Below w.heap.size w w' := by
  have hsm := hr.small
  obtain ⟨i0, hi0, hz0, hz1, hz2⟩ := info_parts Tryd.infoEntry
  go_enter Tryd.func108, Tryd.ntmps108
  go_wp2_with fail
  have hx0 : BlkIs (w.alloc (.cells #[.pointer (some ⟨gx, 0, none⟩), .slice none 0 0] 149)) w.heap.size 149 #[.pointer (some ⟨gx, 0, none⟩), .slice none 0 0] := BlkIs.new _ _ _
  go_loopw [4, 5] (fun all at_ wr => ∃ (b : Nat) (Ad : Option Addr) (cd : Nat) (p : Nat), p = 512 * b ∧ b ≤ bs.length / 512 + 1 ∧ all = .int .i64 (cnt bs p : Nat) ∧ at_ = .int .i64 p ∧ BlkIs wr w.heap.size 149 #[.pointer (some ⟨gx, 0, none⟩), .slice Ad b cd] ∧
      wr.ownsRow w.heap.size 151 2 (.slice Ad b cd) b (u64s (entries bs b)) ∧ Below w.heap.size w wr) (fun _ at_ _ => bs.length + 1024 - (intOf at_).toNat)
  case atStart => exact ⟨0, none, 0, 0, by omega, by omega, rfl, rfl, hx0, World.ownsRow_nil _ _ _ _, (Below.refl _ _).alloc (Nat.le_refl _) _⟩
  case round =>
    obtain ⟨b, Ad, cd, p, hp, hb, rfl, rfl, hx, hown, hB⟩ := hrel
    have hsz := hB.size
    have hg := hx.lt
    clear hx0
    have hr2 := hr.below hB
    have hcl := hr2.cells.2
    have hcn := cnt_len bs p
    have HP := hid hp
    rcases Nat.lt_or_ge bs.length p with hlt | hge
    · have hki : (bs.length : Int) < (p : Int) := by omega
      obtain rfl : b = bs.length / 512 + 1 := by omega
      clear hp
      go_wp2_with fail
      refine (rlen_any gx _ _ hcl).mono ?_
      rintro e w' ⟨rfl, rfl⟩
      go_wp2
      go_ret
      exact ⟨Ad, cd, rfl, ⟨hx, Lst.of_own hown (by omega), hr2⟩, hB⟩
    · have hki : (p : Int) ≤ (bs.length : Int) := by omega
      clear hp
      go_wp2_with fail
      refine (rlen_any gx _ _ hcl).mono ?_
      rintro e w' ⟨rfl, rfl⟩
      go_wp2_with fail
      have hp63 : p ≤ 4294967296 := by omega
      have hbi : ((p : Int)) / 64 = 8 * (b : Int) := by have := HP.out; omega
      obtain ⟨wo, hwo⟩ : ∃ wo, wo = wr := ⟨_, rfl⟩
      subst hwo
      go_loopw [7, 21] (fun inn k w2 => ∃ (j n : Nat), j ≤ 8 ∧ k = .int .i64 j ∧ inn = .int .i64 n ∧ Hid (n = cnt bs (512 * b + 64 * j) - cnt bs (512 * b)) ∧ BlkIs w2 wo.heap.size 151 #[.int .u64 (cnt bs p : Nat), .int .u64 (packed bs b (j - 1) : Nat)] ∧ Below wo.heap.size wo w2) (fun _ k _ => 8 - (intOf k).toNat)
      case atStart =>
        refine ⟨0, 0, by omega, rfl, rfl, hid (by simp), ?_, ?_⟩
        · first | exact BlkIs.new _ _ _ | exact ((BlkIs.new _ _ _).put 0 _).put 1 _
        · first | exact (Below.refl _ _).alloc (Nat.le_refl _) _ | exact (((Below.refl _ _).alloc (Nat.le_refl _) _).setCell (Nat.le_refl _) _).setCell (Nat.le_refl _) _
      case round =>
        obtain ⟨j, n, hj, rfl, rfl, HN, hxe, hB2⟩ := hrel
        have hn448 : n ≤ 64 * j := by have := HN.out; have := cnt_diff bs (512 * b) (64 * j); omega
        have hsz2 := hB2.size
        have hr3 := hr2.below hB2
        rcases Nat.lt_or_ge j 8 with hj8 | hj8
        · have hji : (j : Int) < 8 := by omega
          have HW := hid (show wordI bs (8 * (b : Int) + (j : Int)) = wordAt bs (8 * b + j) by unfold wordI; rw [if_neg (by omega)]; congr 1)
          have hcw := cnt_word bs (8 * b + j) 64 (by omega)
          have HC := hid (show n + onesTo (wordAt bs (8 * b + j)) 64 = cnt bs (512 * b + 64 * (j + 1)) - cnt bs (512 * b) by
            have h1 := HN.out
            have h2 := cnt_mono bs (show 512 * b ≤ 512 * b + 64 * j by omega)
            rw [show 64 * (8 * b + j) = 512 * b + 64 * j from by omega] at hcw
            rw [show 512 * b + 64 * (j + 1) = 512 * b + 64 * j + 64 from by omega]
            omega)
          have hon := onesTo_le (wordAt bs (8 * b + j)) 64
          have hwl := wordAt_lt bs (8 * b + j)
          clear hcw
          rcases Nat.eq_zero_or_pos j with h0 | h0
          · subst h0
            have HW0 := hid (show wordI bs (8 * (b : Int)) = wordAt bs (8 * b) by have := HW.out; simpa using this)
            have hon0 := onesTo_le (wordAt bs (8 * b)) 64
            go_wp2_with fail
            refine (rword_any gx A c bs _ _ hr3).mono ?_
            rw [HW0.out]
            rintro e w' ⟨rfl, rfl⟩
            go_wp2_with fail
            refine (ones_any _ _ _ hwl).mono ?_
            rw [show clampN 64 = 64 from by decide]
            rintro e w' ⟨rfl, rfl⟩
            go_wp2
            go_roundw
            case rel => exact ⟨1, n + onesTo (wordAt bs (8 * b)) 64, by omega, rfl, by go_num, hid HC.out, hxe, hB2⟩
            case measure => simp [intOf]
          · obtain ⟨q, rfl⟩ : ∃ q, j = q + 1 := ⟨j - 1, by omega⟩
            have e0 := hxe.cell 1
            have f0 := hxe.frozen 1
            have r1 : IntKind.i64.wrap ((q : Int) + 1 - 1) = (q : Int) := by rw [IntKind.wrap_i64]; omega
            have r2 : IntKind.i64.wrap (q : Int) = (q : Int) := by rw [IntKind.wrap_i64]; omega
            have r3 : IntKind.i64.wrap (9 * (q : Int)) = 9 * (q : Int) := by rw [IntKind.wrap_i64]; omega
            have r4 : (0 : Int) ≤ 9 * (q : Int) := by omega
            have r5 : (9 * (q : Int)).toNat = 9 * q := by omega
            have r6 : IntKind.u64.wrap (n : Int) = (n : Int) := by rw [IntKind.wrap_u64]; omega
            have H := hid (packed_orI bs b q n HN.out (by omega))
            go_wp2_with fail
            go_still_tail 10, (by kernel_rfl)
            change wpList _ _ _ _ _ wr.drew
            rw [H.out]
            have hB3 := (hB2.setCell (p := ⟨wo.heap.size, 1, none⟩) (Nat.le_refl _) (.int .u64 (packed bs b (q + 1) : Nat))).drew
            have hx3 : BlkIs (wr.setCell ⟨wo.heap.size, 1, none⟩ (.int .u64 (packed bs b (q + 1) : Nat))).drew wo.heap.size 151 #[.int .u64 (cnt bs p : Nat), .int .u64 (packed bs b (q + 1) : Nat)] := hxe.put 1 _
            have hr4 := hr2.below hB3
            have HW1 := hid (show wordI bs (8 * (b : Int) + ((q : Int) + 1)) = wordAt bs (8 * b + (q + 1)) by have := HW.out; simpa using this)
            clear HW
            go_wp2_with fail
            refine (rword_any gx A c bs _ _ hr4).mono ?_
            rw [HW1.out]
            rintro e w' ⟨rfl, rfl⟩
            go_wp2_with fail
            refine (ones_any _ _ _ hwl).mono ?_
            rw [show clampN 64 = 64 from by decide]
            rintro e w' ⟨rfl, rfl⟩
            go_wp2
            go_roundw
            case rel => exact ⟨q + 2, n + onesTo (wordAt bs (8 * b + (q + 1))) 64, by omega, by go_num, by go_num, hid HC.out, hx3, hB3⟩
            case measure => simp [intOf] <;> omega
        · obtain rfl : j = 8 := by omega
          have hji : ¬ ((8 : Int) < 8) := by omega
          have hx5 := hx.below hB2
          have hown5 := own_only hown (Only.of_below (S := fun _ => False) hB2) (fun _ _ => id)
          have d0 : wr.cell? ⟨w.heap.size, 1, none⟩ = some (.slice Ad b cd) := hx5.cell 1
          have f0 := hx5.frozen 1
          have d1 : wr.cell? ⟨wo.heap.size, 0, none⟩ = some (.int .u64 (cnt bs p : Nat)) := hxe.cell 0
          have d2 : wr.cell? ⟨wo.heap.size, 1, none⟩ = some (.int .u64 (packed bs b 7 : Nat)) := hxe.cell 1
          have hne : (Value.slice Ad b cd).ownBlock ≠ some w.heap.size := hx5.ne_own hown5 (by decide)
          have hsz6 := hx5.lt
          have hb63 : b ≤ 8388609 := by have := HP.out; omega
          have hn512 : n ≤ 512 := by omega
          have hcn2 : cnt bs p + n ≤ 4294967296 + 512 := by omega
          have HNN := hid (show cnt bs p + n = cnt bs (512 * (b + 1)) by
            have h1 := HN.out
            have h2 := cnt_mono bs (show 512 * b ≤ 512 * b + 64 * 8 by omega)
            rw [show 512 * (b + 1) = 512 * b + 64 * 8 from by omega, show cnt bs p = cnt bs (512 * b) from by rw [HP.out]]
            omega)
          have HE := hid (show u64s (entries bs (b + 1)) = u64s (entries bs b) ++ [.int .u64 (cnt bs p : Nat), .int .u64 (packed bs b 7 : Nat)] by
            rw [entries_succ, HP.out]; simp [u64s])
          have HLE := hid (entries_length bs b)
          go_wp2_with fail
          go_region_law
            ((refine step_append_lies _ rfl (.tmp 50) (.tmp 52) _ rfl w.heap.size 151 i0 _ 2 16 Tryd.underlying147 hi0 hz0 hz1 hz2 rfl (by omega) (.slice Ad b cd) b (u64s (entries bs b)) (by rfl) (by exact hown5.alloc _) ⟨wr.heap.size, 0, none⟩ 1 1 [.int .u64 (cnt bs p : Nat), .int .u64 (packed bs b 7 : Nat)] (by rfl) (by rfl) (by exact cell_two_at _ _ _ _ _ (by simp)) (by simp [Value.oneCell']) (by omega) (by simp only [maxLen]; omega) (by omega) (by simp; omega) (wr.heap.size + 1) (by simp) ?_;
              intro g2 c2 w2 hown2 hgr2 hat2 hlt2;
              have hx6 : BlkIs w2 w.heap.size 149 #[.pointer (some ⟨gx, 0, none⟩), .slice Ad b cd] := (hx5.alloc _).kept (hgr2.block w.heap.size (by simp; omega) (fun e => hne e.symm));
              have e0 : w2.cell? ⟨w.heap.size, 1, none⟩ = some (.slice Ad b cd) := hx6.cell 1;
              have g0 := hx6.frozen 1))
          all_goals
            go_wp2
            go_roundw
            case rel =>
              refine ⟨b + 1, some ⟨g2, 0, none⟩, c2, 512 * (b + 1), rfl, by omega, ?_, ?_, ?_, ?_, ?_⟩
              · rw [← HNN.out]; go_num
              · have := HP.out; go_num
              · exact hx6.put 1 _
              · rw [HE.out]
                exact own_only hown2 ((Only.refl (fun i => i = w.heap.size) _).setCell (.inl rfl) _) (fun j hj hj2 => hx6.ne_own hown2 (by decide) (by rw [hj, hj2]))
              · exact (((hB.trans (hB2.mono hsz)).alloc (by omega) (.cells #[.int .u64 (cnt bs p : Nat), .int .u64 (packed bs b 7 : Nat)] 151)).drew.grown hgr2 (by simp; omega) (fun j hj => (hown.lt j hj).1)).setCell (Nat.le_refl _) _
            case measure => simp [intOf]; have := HP.out; omega

end Go.Proofs.YtlpnbkfcbamnbaaDoor
