/- Walks: numbers that rise: the numbers of a part, one by one. -/
import Derived.Test.YtlpnbkfcbamnbaaDoorFanoD
import Derived.RangeFuncNested
import Derived.RangeFuncBox
import Derived.RangeFuncBound
import Derived.RangeFuncCalls
import Derived.RangeFuncLeaves
import Derived.Shelf.Abstract
import Derived.Shelf.RegionOpen
import Derived.WalkKit
import Derived.OwnWalkIn
import Derived.TacticsInMore
import Derived.LoopNIn
import Derived.LoopIn
set_option linter.unusedVariables false
set_option linter.unusedSimpArgs false
set_option maxRecDepth 100000
namespace Go.Proofs.YtlpnbkfcbamnbaaDoor
open Go.RowKit Go.Shelf L
attribute [local go_sem] Oper.semAt_some

theorem abide_below {β : Type} {Bn : Nat} {J : β → World → Prop} (hJ : AbidesFrom Bn J) {s : β} {A A' : World} (h : J s A) (hb : Below A.heap.size A A') : J s A' :=
  hJ s A A' none h ⟨hb.os, hb.tape, hb.output, hb.size, fun k hk _ => hb.block k hk⟩ (fun r e => by cases e)

/-- A number with its place. -/
def amE (p : Nat × Nat) : Array Value := #[.int .i64 (p.1 : Nat), .int .i64 (p.2 : Nat)]
/-- The numbers of some places, with their places. -/
def L.segs (l : List Nat) (a b : Nat) : List (Nat × Nat) := (List.range (b - a)).map fun k => (a + k, l.getD (a + k) 0)
theorem L.segs_length (l : List Nat) (a b : Nat) : (segs l a b).length = b - a := by simp [segs]
theorem L.segs_succ (l : List Nat) {a b i : Nat} (h1 : a ≤ i) (h2 : i < b) : (segs l a b).take (i + 1 - a) = (segs l a b).take (i - a) ++ [(i, l.getD i 0)] := by
  rw [show i + 1 - a = (i - a) + 1 from by omega, List.take_succ_eq_append_getElem (by rw [segs_length]; omega)]
  congr 2
  unfold segs
  rw [List.getElem_map, List.getElem_range, show a + (i - a) = i from by omega]
theorem L.segs_all (l : List Nat) (a b : Nat) : (segs l a b).take (b - a) = segs l a b := List.take_of_length_le (by rw [segs_length]; exact Nat.le_refl _)

set_option maxHeartbeats 1000000 in
theorem among1_in (n : Nat) (hn : 2 ≤ n) (y Bs Bp s : Nat) (l : List Nat) (B p : Nat) (w : World) (hs : SeqAt w s l B) (hT : Tab w) (hr : RightN l B) (hf : Few l B) (hp : p + 1 ≤ top l B)
    (hcs : w.cell? ⟨Bs, 0, none⟩ = some (.pointer (some ⟨s, 0, none⟩))) (hcp : w.cell? ⟨Bp, 0, none⟩ = some (.int .i64 (p : Nat))) (hBs : Bs < w.heap.size) (hBp : Bp < w.heap.size)
    (a b : Nat) (ha : a = cl l (p * 2 ^ wd l.length B)) (hb : b = cl l ((p + 1) * 2 ^ wd l.length B)) (hab : a ≤ b)
    (J Jx : List (Nat × Nat) → World → Prop) (W : World) (hW : Below w.heap.size w W) (hJ : AbidesFrom W.heap.size J)
    (hY : ∀ pre x W1, J pre W1 → pre.length < b - a → YieldAt Fence.wide (n - 1) Tryd.prog y (amE x) W1 fun e W' =>
      (e = .returned (.bool true) ∧ J (pre ++ [x]) W' ∧ Below w.heap.size W1 W') ∨ (e = .returned (.bool false) ∧ Jx (pre ++ [x]) W'))
    (h0 : J [] W) :
    CallsIn Fence.wide n Tryd.prog 104 #[.func (.yield y) #[] #[], .pointer (some ⟨Bs, 0, none⟩), .pointer (some ⟨Bp, 0, none⟩)] W fun e W' => (∃ v, e = .returned v) ∧
      ((∃ ys, ys = segs l a b ∧ J ys W') ∨ (∃ pre, pre <+: segs l a b ∧ Jx pre W')) := by
  have hn1 : l.length ≤ 10000 := hf.1
  have hbl : b ≤ l.length := by rw [hb]; exact cl_le _ _
  have htop : (B - 1) / 2 ^ wd l.length B ≤ 100000 := hf.2
  have ht : top l B = (B - 1) / 2 ^ wd l.length B + 1 := rfl
  have hpb : p ≤ 100000 := by omega
  have HF1 := hid (show ∀ W', Below w.heap.size w W' → Calls Tryd.prog 66 #[.pointer (some ⟨s, 0, none⟩), .int .i64 (p : Nat)] W' fun e w' => e = .returned (.int .i64 (a : Nat)) ∧ Below W'.heap.size W' w' from fun W' hW' => by
    rw [ha]; exact sfirst_any s l B p W' (hs.below hW') (hT.below hW') hr hf (by omega))
  have HF2 := hid (show ∀ W', Below w.heap.size w W' → Calls Tryd.prog 66 #[.pointer (some ⟨s, 0, none⟩), .int .i64 ((p : Int) + 1)] W' fun e w' => e = .returned (.int .i64 (b : Nat)) ∧ Below W'.heap.size W' w' from fun W' hW' => by
    rw [hb]; exact sfirst_any s l B (p + 1) W' (hs.below hW') (hT.below hW') hr hf hp)
  have HG := hid (show ∀ i W', i < l.length → Below w.heap.size w W' → Calls Tryd.prog 64 #[.pointer (some ⟨s, 0, none⟩), .int .i64 (i : Nat)] W' fun e w' => e = .returned (.int .i64 (l.getD i 0 : Nat)) ∧ Below W'.heap.size W' w' from fun i W' hi hW' => by
    rw [List.getD_eq_getElem?_getD, List.getElem?_eq_getElem hi]; exact sget_any s l B i W' (hs.below hW') (hT.below hW') hr hf hi)
  have hp1W := wrap_one p (by omega)
  clear hs hT hr hf hp ha hb htop ht
  have hsW := hW.size
  have ks := (hW.cell (p := ⟨Bs, 0, none⟩) hBs).trans hcs
  have kp := (hW.cell (p := ⟨Bp, 0, none⟩) hBp).trans hcp
  refine callsIn_of_wp Tryd.func104 rfl trivial ?_ rfl
  simp only [Tryd.ntmps104, List.size_toArray, List.length_cons, List.length_nil, Nat.reduceAdd, Nat.reduceSub, Array.replicate_succ, Array.replicate_zero, List.push_toArray, List.append_toArray, List.nil_append, List.cons_append]
  gi_wp2
  refine ⟨trivial, fun _ => by omega, ?_⟩
  refine (callsIn_wide.2 (HF1.out _ hW)).mono ?_
  rintro e w1 ⟨rfl, hB1⟩
  have hb1 := hW.trans (hB1.mono hsW)
  have hj1 := abide_below hJ h0 hB1
  gi_wp2
  gi_loopw [4] (fun av wr => ∃ i : Nat, a ≤ i ∧ i ≤ b ∧ av = .int .i64 (i : Nat) ∧ J ((segs l a b).take (i - a)) wr ∧ Below w.heap.size w wr)
    (fun av _ => b - (intOf av).toNat)
  case atStart => exact ⟨a, Nat.le_refl _, hab, rfl, by rw [Nat.sub_self]; exact hj1, hb1⟩
  case round =>
    obtain ⟨i, hi1, hi2, rfl, hJi, hBi⟩ := hrel
    have hsi := hBi.size
    have ks2 := (hBi.cell (p := ⟨Bs, 0, none⟩) hBs).trans hcs
    have kp2 := (hBi.cell (p := ⟨Bp, 0, none⟩) hBp).trans hcp
    rcases Nat.lt_or_ge i b with h | h
    · have hlt : (i : Int) < (b : Int) := by omega
      have hd : decide ((i : Int) < (b : Int)) = true := decide_eq_true hlt
      have hiW := wrap_one i (by omega)
      have hx := segs_succ l hi1 h
      have hil : i < l.length := by omega
      have hlen : ((segs l a b).take (i - a)).length < b - a := by rw [List.length_take, segs_length]; omega
      gi_wp2
      refine ⟨trivial, fun _ => by omega, ?_⟩
      refine (callsIn_wide.2 (HF2.out _ hBi)).mono ?_
      rintro e w2 ⟨rfl, hB2⟩
      have hb2 := hBi.trans (hB2.mono hsi)
      have hs2 := hb2.size
      have hj2 := abide_below hJ hJi hB2
      have ks3 := (hb2.cell (p := ⟨Bs, 0, none⟩) hBs).trans hcs
      gi_wp2
      refine ⟨trivial, fun _ => by omega, ?_⟩
      refine (callsIn_wide.2 (HG.out i _ hil hb2)).mono ?_
      rintro e w3 ⟨rfl, hB3⟩
      have hb3 := hb2.trans (hB3.mono hs2)
      have hs3 := hb3.size
      have hj3 := abide_below hJ hj2 hB3
      obtain ⟨fn, tmps, assign, body, hy, hR⟩ := hY _ (i, l.getD i 0) w3 hj3 hlen
      dsimp only [amE] at hy hR
      rw [← hx] at hR
      have HX := hid hx
      clear hx
      generalize l.getD i 0 = x at *
      gi_wp2
      refine ⟨fun _ => by omega, ?_⟩
      refine hR.mono ?_
      rintro e W3 (⟨rfl, hJ3, hk3⟩ | ⟨rfl, hJx3⟩)
      · have hb4 := hb3.trans hk3
        gi_wp2
        go_roundw
        case rel => exact ⟨i + 1, by omega, by omega, rfl, hJ3, hb4⟩
        case measure => simp [intOf]; omega
      · gi_wp2
        go_end0
        refine ⟨⟨_, rfl⟩, .inr ⟨_, List.take_prefix _ _, hJx3⟩⟩
    · obtain rfl : i = b := by omega
      have hd : decide ((i : Int) < (i : Int)) = false := decide_eq_false (by omega)
      have hE := hid (segs_all l a i)
      gi_wp2
      refine ⟨trivial, fun _ => by omega, ?_⟩
      refine (callsIn_wide.2 (HF2.out _ hBi)).mono ?_
      rintro e w2 ⟨rfl, hB2⟩
      have hj2 := abide_below hJ hJi hB2
      rw [hE.out] at hj2
      gi_wp2
      refine ⟨trivial, ?_⟩
      gi_wp2
      refine ⟨fun _ h => (by cases h), ?_⟩
      gi_wp2
      go_end0
      exact ⟨⟨_, rfl⟩, .inl ⟨_, rfl, hj2⟩⟩

end Go.Proofs.YtlpnbkfcbamnbaaDoor
