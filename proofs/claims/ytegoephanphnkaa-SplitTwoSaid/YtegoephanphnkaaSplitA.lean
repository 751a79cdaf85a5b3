/- Walks: the lines of a file: the iterator. -/
import Derived.Test.YtegoephanphnkaaLawSplitB
import Derived.Test.YtegoephanphnkaaNbExt
import Derived.Test.YtegoephanphnkaaMem
import Derived.Test.YtegoephanphnkaaScanC
import Derived.RangeFuncNested
import Derived.RangeFuncBox
import Derived.RangeFuncBound
import Derived.RangeFuncCalls
import Derived.RangeFuncLeaves
import Derived.Shelf.Abstract
import Derived.Shelf.RegionOpen
import Derived.WalkKit
import Derived.OwnWalkIn
import Derived.TacticsInMore
import Derived.LoopNIn
import Derived.LoopIn
set_option linter.unusedVariables false
set_option linter.unusedSimpArgs false
set_option maxRecDepth 100000
namespace Go.Proofs.Ytegoephanphnkaa
open Go.RowKit Go.Shelf L
attribute [local go_sem] Oper.semAt_some

/-- The bytes from a place on, and the first line end among them. -/
theorem idx_any (s : ByteArray) (a : Nat) (w : World) (ha : a ≤ s.size) :
    Calls Try.prog 38 #[.string (s.extract a s.size), .int .u8 10] w fun e w' => ∃ v : Int, e = .returned (.int .i64 v) ∧ w = w' ∧ ((v = -1 ∧ nlx (nb s) a = s.size) ∨ (v = ((nlx (nb s) a - a : Nat) : Int) ∧ nlx (nb s) a < s.size)) := by
  refine (Try.strings_IndexByte (s.extract a s.size) 10 w).mono fun e w' ⟨he, hw⟩ => ⟨_, he, hw.symm, ?_⟩
  have h := ix_byte (s.extract a s.size).data.toList
  have e1 : (s.extract a s.size).data.toList.map UInt8.toNat = (nb s).drop a := nb_drop s a
  have e2 : (s.extract a s.size).data.toList.length = s.size - a := by
    have := congrArg List.length e1
    rw [List.length_map, List.length_drop, nb_length] at this
    exact this
  have e3 : Int.toNat 10 = 10 := rfl
  rw [e1, e2] at h
  unfold nlx
  rcases h with ⟨h1, h2⟩ | ⟨h1, h2⟩
  · exact Or.inl ⟨h1, by omega⟩
  · exact Or.inr ⟨by rw [show a + ix ((nb s).drop a) - a = ix ((nb s).drop a) from by omega]; exact h1, by omega⟩

/-- Block Bn stays. -/
def KpB (Bn : Nat) (W W' : World) : Prop := W'.heap[Bn]? = W.heap[Bn]?
theorem KpB.t {Bn : Nat} : ∀ {A B C : World}, KpB Bn A B → KpB Bn B C → KpB Bn A C := fun h k => k.trans h
theorem KpB.b {Bn : Nat} {w : World} (h : Bn < w.heap.size) : ∀ (W : World) (l : Nat) (o o' : Obj), w.heap.size ≤ l → W.heap[l]? = some o → o.isCells = false → o.isWalk = false → KpB Bn W (W.putObj l o') := fun W l o o' hl _ _ _ => by
  refine (grownBy_putObj' W l o').block Bn ?_ (fun e => by cases e; omega)
  rename_i h3 _ _
  have := (Array.getElem?_eq_some_iff.1 h3).1
  omega

/-- A record's place, as the loop hands it on. -/
def spE (p : Nat × Nat) : Value := .agg #[.int .i64 (p.1 : Nat), .int .i64 (p.2 : Nat)]

set_option maxHeartbeats 1000000 in
theorem lines1_in (n : Nat) (hn : 2 ≤ n) (l Bn : Nat) (s : ByteArray) (hs : s.size ≤ 1048576) (J Jx : List (Nat × Nat) → World → Prop)
    (hY : ∀ pre x W, J pre W → pre.length < (spans (nb s)).length → YieldAt Fence.wide (n - 1) Try.prog l #[spE x] W fun e W' =>
      (e = .returned (.bool true) ∧ J (pre ++ [x]) W' ∧ KpB Bn W W') ∨ (e = .returned (.bool false) ∧ Jx (pre ++ [x]) W'))
    (W : World) (hc : W.cell? ⟨Bn, 0, none⟩ = some (.string s)) (h0 : J [] W) :
    CallsIn Fence.wide n Try.prog 37 #[.func (.yield l) #[] #[], .pointer (some ⟨Bn, 0, none⟩)] W fun e W' => (∃ v, e = .returned v) ∧
      ((∃ ys, ys = spans (nb s) ∧ J ys W') ∨ (∃ pre, pre <+: spans (nb s) ∧ Jx pre W')) := by
  have HL := hid (nb_length s)
  refine callsIn_of_wp Try.func37 rfl trivial ?_ rfl
  simp only [Try.ntmps37, List.size_toArray, List.length_cons, List.length_nil, Nat.reduceAdd, Nat.reduceSub, Array.replicate_succ, Array.replicate_zero, List.push_toArray, List.append_toArray, List.nil_append, List.cons_append]
  gi_wp2
  gi_loopw [3] (fun av wr => ∃ (pre : List (Nat × Nat)) (a : Nat), av = .int .i64 (a : Nat) ∧ a ≤ s.size + 1 ∧ spans (nb s) = pre ++ spnA (nb s) a ∧ J pre wr ∧ wr.cell? ⟨Bn, 0, none⟩ = some (.string s))
    (fun av _ => s.size + 1 - (intOf av).toNat)
  case atStart => exact ⟨[], 0, rfl, by omega, rfl, h0, hc⟩
  case round =>
    obtain ⟨pre, a, rfl, ha, hx, hJs, hcr⟩ := hrel
    rcases Nat.lt_or_ge a s.size with h | h
    · have hi : (a : Int) < (s.size : Int) := by omega
      have hi2 : decide ((a : Int) < (s.size : Int)) = true := decide_eq_true hi
      have hst := spnA_step (l := nb s) (a := a) (by rw [HL.out]; exact h)
      have hnl := nlx_le (l := nb s) (a := a) (by rw [HL.out]; omega)
      rw [HL.out] at hnl
      obtain ⟨b, hb⟩ : ∃ b, b = nlx (nb s) a := ⟨_, rfl⟩
      rw [← hb] at hst hnl
      obtain ⟨fn, tmps, assign, body, hy, hR⟩ := hY pre (a, b) wr hJs (by rw [hx, hst]; simp)
      dsimp only [spE] at hy hR
      have HX := hid (show spans (nb s) = (pre ++ [(a, b)]) ++ spnA (nb s) (b + 1) by rw [hx, hst]; simp)
      have HI := hid (fun W => idx_any s a W (by omega))
      rw [← hb] at HI
      obtain ⟨k, hk⟩ : ∃ k, k = b - a := ⟨_, rfl⟩
      have hkI : (a : Int) + (k : Int) = (b : Int) := by omega
      have hbW : IntKind.i64.wrap (b : Int) = (b : Int) := by rw [IntKind.wrap_i64]; omega
      have hkW : IntKind.i64.wrap (k : Int) = (k : Int) := by rw [IntKind.wrap_i64]; omega
      have hk1W := wrap_one k (by omega)
      have hak : (a : Int) + ((k : Int) + 1) = (b : Int) + 1 := by omega
      have hb1W := wrap_one b (by omega)
      have hk0 : decide ((k : Int) < 0) = false := decide_eq_false (by omega)
      have HQ := hid (show (b : Int) + 1 = ((b + 1 : Nat) : Int) by omega)
      by_cases hbs : b = s.size
      · have HI2 := hid (fun W => (HI.out W).mono (R' := fun e w' => e = .returned (.int .i64 (-1)) ∧ W = w') (fun e w' ⟨v, h1, h2, h3⟩ => ⟨by rw [h1]; rcases h3 with ⟨h4, _⟩ | ⟨_, h4⟩; rw [h4]; omega, h2⟩))
        have hsk : (s.size : Int) - (a : Int) = (k : Int) := by omega
        have HB := hid (And.intro hbs hnl)
        clear HI hb hst hx hk hbs hnl
        gi_wp2
        refine ⟨trivial, fun _ => by omega, ?_⟩
        refine (callsIn_wide.2 (HI2.out _)).mono ?_
        rintro e w' ⟨rfl, rfl⟩
        gi_wp2
        refine ⟨fun _ => by omega, ?_⟩
        refine hR.mono ?_
        rintro e W3 (⟨rfl, hJ3, hk3⟩ | ⟨rfl, hJx3⟩)
        · have hq3 : W3.cell? ⟨Bn, 0, none⟩ = some (.string s) := (World.cell?_of_block (a := ⟨Bn, 0, none⟩) hk3).trans hcr
          gi_wp2
          go_roundw
          case rel => exact ⟨pre ++ [(a, b)], b + 1, by rw [HQ.out], by have := HB.out; omega, HX.out, hJ3, hq3⟩
          case measure => simp [intOf]; have := HB.out; omega
        · gi_wp2
          refine bodyPost_ret (results_none rfl _ _ _) rfl ?_
          exact ⟨⟨_, rfl⟩, .inr ⟨pre ++ [(a, b)], ⟨_, HX.out.symm⟩, hJx3⟩⟩
      · have HI2 := hid (fun W => (HI.out W).mono (R' := fun e w' => e = .returned (.int .i64 (k : Nat)) ∧ W = w') (fun e w' ⟨v, h1, h2, h3⟩ => ⟨by rw [h1]; rcases h3 with ⟨_, h4⟩ | ⟨h4, _⟩; exact absurd h4 hbs; rw [h4, hk], h2⟩))
        have HB := hid (And.intro hbs hnl)
        clear HI hb hst hx hk hbs hnl
        gi_wp2
        refine ⟨trivial, fun _ => by omega, ?_⟩
        refine (callsIn_wide.2 (HI2.out _)).mono ?_
        rintro e w' ⟨rfl, rfl⟩
        gi_wp2
        refine ⟨fun _ => by omega, ?_⟩
        refine hR.mono ?_
        rintro e W3 (⟨rfl, hJ3, hk3⟩ | ⟨rfl, hJx3⟩)
        · have hq3 : W3.cell? ⟨Bn, 0, none⟩ = some (.string s) := (World.cell?_of_block (a := ⟨Bn, 0, none⟩) hk3).trans hcr
          gi_wp2
          go_roundw
          case rel => exact ⟨pre ++ [(a, b)], b + 1, by rw [HQ.out], by have := HB.out; omega, HX.out, hJ3, hq3⟩
          case measure => simp [intOf]; have := HB.out; omega
        · gi_wp2
          refine bodyPost_ret (results_none rfl _ _ _) rfl ?_
          exact ⟨⟨_, rfl⟩, .inr ⟨pre ++ [(a, b)], ⟨_, HX.out.symm⟩, hJx3⟩⟩
    · have hi : decide ((a : Int) < (s.size : Int)) = false := decide_eq_false (by omega)
      have hiN : ¬ (a < s.size) := by omega
      have hE := hid (spnA_end (l := nb s) (a := a) (by rw [HL.out]; exact h))
      gi_wp2
      go_end0
      exact ⟨⟨_, rfl⟩, .inl ⟨pre, by rw [hx, hE.out, List.append_nil], hJs⟩⟩

theorem lines_any (s : ByteArray) (w : World) : Calls Try.prog 26 #[.string s] w fun e w' => e = .returned (.func (.func 37) #[] #[.pointer (some ⟨w.heap.size, 0, none⟩)]) ∧ w' = w.alloc (.cells #[.string s] 9) := by
  go_enter Try.func26, Try.ntmps26
  go_wp2_with fail
  go_ret
  exact ⟨rfl, rfl⟩

theorem lines_stops (n : Nat) (hn : 2 ≤ n) (Bn : Nat) (s : ByteArray) (hs : s.size ≤ 1048576) (w : World) (hBn : Bn < w.heap.size) (hc : w.cell? ⟨Bn, 0, none⟩ = some (.string s)) :
    SeqStopsK Fence.wide n Try.prog 37 #[.pointer (some ⟨Bn, 0, none⟩)] (fun x : Nat × Nat => #[spE x]) (KpB Bn) (fun ys => ys = spans (nb s)) (fun pre => pre <+: spans (nb s)) (spans (nb s)).length w := fun l J Jx W hW _ _ hY h0 =>
  lines1_in n hn l Bn s hs J Jx hY W ((hW.cell (p := ⟨Bn, 0, none⟩) hBn).trans hc) h0

end Go.Proofs.Ytegoephanphnkaa
