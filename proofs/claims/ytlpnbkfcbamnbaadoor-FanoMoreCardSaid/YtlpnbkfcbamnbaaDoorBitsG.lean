/- Walks: a strings.Builder's bytes; a row's bytes. -/
import Derived.Test.YtlpnbkfcbamnbaaDoorBitsF
import Derived.Lib.Builder
set_option linter.unusedVariables false
set_option linter.unusedSimpArgs false
set_option maxRecDepth 100000
namespace Go.Proofs.YtlpnbkfcbamnbaaDoor
open Go.RowKit L

theorem Tryd.sizeSB : (Tryd.prog.info? 135).map (·.size) = some 2 := by kernel_rfl
theorem Tryd.liesSB : liesAt Tryd.prog Tryd.prog.depth 135 (2 / Tryd.prog.cellsOf 135) 0 135 1 = true := by kernel_rfl
theorem Tryd.infoU8 : (Tryd.prog.info? 5).map (fun i => (i.zero, i.size, i.bytes)) = some (some (.int .u8 0), 1, 1) := by kernel_rfl

set_option maxHeartbeats 1000000 in
theorem sb_check_used (b : Nat) (w : World) (h0 : w.cell? ⟨b, 0, none⟩ = some (.pointer (some ⟨b, 0, none⟩))) :
    Calls Tryd.prog 156 #[.pointer (some ⟨b, 0, none⟩)] w fun e w' => e = .returned (.tuple #[]) ∧ w' = w := by
  obtain ⟨j, hj, _⟩ := Option.map_eq_some_iff.1 Tryd.sizeSB
  go_enter Tryd.func156, Tryd.ntmps156
  go_wp2
  rw [Lib.run_neq_ptr_same w _ Tryd.underlying132 hj]
  go_wp2
  go_end0
  exact ⟨rfl, rfl⟩

set_option maxHeartbeats 1000000 in
theorem sb_check_fresh (b : Nat) (w : World) (h0 : w.cell? ⟨b, 0, none⟩ = some (.pointer none)) (hsh : w.shape? b = some (135, 2)) (hfz : w.frozen? ⟨b, 0, none⟩ = false) :
    Calls Tryd.prog 156 #[.pointer (some ⟨b, 0, none⟩)] w fun e w' => e = .returned (.tuple #[]) ∧ w' = w.setCell ⟨b, 0, none⟩ (.pointer (some ⟨b, 0, none⟩)) := by
  obtain ⟨j, hj, hjs⟩ := Option.map_eq_some_iff.1 Tryd.sizeSB
  go_enter Tryd.func156, Tryd.ntmps156
  go_wp2
  rw [Lib.run_to_unsafe w ⟨b, 0, none⟩ Tryd.underlying132 Tryd.underlying171 hj (by rw [hjs]; decide) hsh (Nat.zero_lt_succ 1)]
  simp only [Result.andThen]
  rw [Oper.upon_value]
  go_wp2
  rw [run_callFunc_extern Tryd.func159 (by kernel_rfl) (by kernel_rfl) (by kernel_rfl) (e := Extern.AbiNoEscape.same) (by kernel_rfl)]
  rw [Lib.run_noEscape]
  simp only [Result.andThen]
  rw [Oper.upon_value]
  go_wp2
  rw [Lib.run_from_unsafe w ⟨b, 0, none⟩ Tryd.underlying171 Tryd.underlying132 hj hsh Tryd.liesSB]
  simp only [Result.andThen]
  rw [Oper.upon_value]
  go_wp2
  go_end0
  exact ⟨rfl, rfl⟩

theorem sb_check (B b : Nat) (bs : List Value) (w : World) (h : Lib.IsBuilder 135 5 B b bs w) :
    Calls Tryd.prog 156 #[.pointer (some ⟨b, 0, none⟩)] w fun e w' => e = .returned (.tuple #[]) ∧ Lib.BuilderAt 135 5 B b (.pointer (some ⟨b, 0, none⟩)) bs w' ∧ Below B w w' := by
  rcases h with h | h
  · refine (sb_check_fresh b w h.cell0 h.shape h.frozen0).mono ?_
    rintro e w' ⟨rfl, rfl⟩
    exact ⟨rfl, h.used _, (Below.refl B w).setCell (p := ⟨b, 0, none⟩) h.1 _⟩
  · refine (sb_check_used b w h.cell0).mono ?_
    rintro e w' ⟨rfl, rfl⟩
    exact ⟨rfl, h, Below.refl B _⟩

set_option maxHeartbeats 1000000 in
theorem sb_byte (B b : Nat) (bs : List Value) (c : Int) (w : World) (h : Lib.IsBuilder 135 5 B b bs w) (hlen : bs.length + 1 ≤ 140737488355328) (hBw : B ≤ w.heap.size) :
    Calls Tryd.prog 146 #[.pointer (some ⟨b, 0, none⟩), .int .u8 c] w fun e w' => e = .returned .nilIface ∧ Lib.IsBuilder 135 5 B b (bs ++ [.int .u8 c]) w' ∧ Below B w w' := by
  obtain ⟨i0, hi, hz0, hz1, hz2⟩ := info_parts Tryd.infoU8
  go_enter Tryd.func146, Tryd.ntmps146
  go_wp2_with fail
  refine (sb_check B b bs _ h).mono ?_
  rintro e w1 ⟨rfl, ⟨hB, v, hbk, hown, hne⟩, hb1⟩
  have hk : BlkIs w1 b 135 #[.pointer (some ⟨b, 0, none⟩), v] := hbk
  have c1 : w1.cell? ⟨b, 1, none⟩ = some v := hk.cell 1
  have hlt := hk.lt
  have hz := hb1.size
  go_wp2_with (at_builtin
               go_must (refine wpList_append_more _ rfl (.tmp 11) (.tmp 13) _ rfl B 5 i0 _ 1 Tryd.underlying133 hi hz0 hz1 hz2 rfl v bs.length bs rfl (hown.alloc _) (some ⟨w1.heap.size, 0, none⟩) 1 1 [.int .u8 c] rfl (lst_one _ _ _ _ rfl) rfl ?h1 ?h63 ?hby ?hbs _ rfl ?_)
               go_must (case h1 => simp [Value.oneCell'])
               go_must (case h63 => unfold maxLen; omega)
               go_must (case hby => omega)
               go_must (case hbs => simp; omega)
               intro A2 c2 w2 hown2 hgr2 hat2
               have hk2 : BlkIs w2 b 135 #[.pointer (some ⟨b, 0, none⟩), v] := (hk.alloc _).kept (hgr2.block b (by simp; omega) (fun e => hne e.symm))
               have d1 : w2.cell? ⟨b, 1, none⟩ = some v := hk2.cell 1
               have f1 := hk2.frozen 1)
  go_ret
  have hne2 : (Value.slice A2 (bs.length + 1) c2).ownBlock ≠ some b := hk2.ne_own hown2 (by decide)
  refine ⟨rfl, .inr ⟨hB, _, (hk2.put 1 _), ?_, hne2⟩, (hb1.trans (((Below.refl B w1).alloc (by omega) _).grown hgr2 (by simp; omega) (fun k hk => (hown.lt k hk).1))).setCell hB _⟩
  have := own_only hown2 ((Only.refl (fun i => i = b) w2).setCell (p := ⟨b, 1, none⟩) (.inl rfl) (Value.slice A2 (bs.length + 1) c2)) (fun k hk e => hne2 (by rw [hk, e]))
  simpa using this

/-- The eight bytes of a number, the least first. -/
def le8 (v : Nat) : List UInt8 := (List.range 8).map fun i => UInt8.ofNat (v / 256 ^ i)

end Go.Proofs.YtlpnbkfcbamnbaaDoor
