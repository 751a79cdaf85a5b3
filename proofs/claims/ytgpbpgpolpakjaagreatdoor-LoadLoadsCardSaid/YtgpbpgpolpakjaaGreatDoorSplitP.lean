/- Proof text. -/
import Derived.Test.YtgpbpgpolpakjaaGreatDoorAutoP
import Derived.Lib.Bytealg
import Derived.Test.YtgpbpgpolpakjaaGreatDoorRefQ
import Derived.Test.YtgpbpgpolpakjaaGreatDoorBase
import Derived.Test.YtgpbpgpolpakjaaGreatDoorScanP
import Derived.RangeFuncNested
import Derived.RangeFuncBox
import Derived.RangeFuncBound
import Derived.RangeFuncCalls
import Derived.RangeFuncLeaves
import Derived.Shelf.Abstract
import Derived.Shelf.RegionOpen
import Derived.WalkKit
import Derived.OwnWalkIn
import Derived.TacticsInMore
import Derived.LoopNIn
import Derived.LoopIn
set_option maxHeartbeats 4000000
set_option linter.unusedVariables false
set_option linter.unusedSimpArgs false
namespace Go.Proofs.YtgpbpgpolpakjaaGreatDoor.L
def ix : List Nat → Nat
 | [] => 0
 | c :: l => if c = 10 then 0 else ix l + 1
theorem z4v : ∀ l, ix l ≤ l.length
 | [] => Nat.le_refl _
 | c :: l => by
   have := z4v l
   unfold ix
   split
   ·omega
   ·simp only [List.length_cons]; omega
theorem zw3 : ∀ l : List UInt8, (Lib.indexByte l 10 = -1 ∧ ix (l.map UInt8.toNat) = l.length) ∨ (Lib.indexByte l 10 = (ix (l.map UInt8.toNat) : Nat) ∧ ix (l.map UInt8.toNat) < l.length)
 | [] => Or.inl ⟨rfl, rfl⟩
 | c :: l => by
   have ih := zw3 l
   simp only [Lib.indexByte, List.map_cons, ix, List.length_cons]
   have hc : (c == 10) = decide (c.toNat = 10) := by
    apply Bool.eq_iff_iff.2
    rw [beq_iff_eq, decide_eq_true_eq]
    constructor
    ·intro h; rw [h]; rfl
    ·intro h; exact UInt8.toNat_inj.1 h
   rw [hc]
   by_cases h : c.toNat = 10
   ·rw [decide_eq_true h, if_pos rfl, if_pos h]
    exact Or.inr ⟨rfl, by omega⟩
   ·rw [decide_eq_false h, if_neg (by simp), if_neg h]
    rcases ih with ⟨e1, e2⟩ | ⟨e1, e2⟩
    ·rw [e1, e2]
     exact Or.inl ⟨rfl, rfl⟩
    ·rw [e1]
     have hn : ((((ix (l.map UInt8.toNat) : Nat) : Int)) == -1) = false := by rw [beq_eq_false_iff_ne]; omega
     rw [hn]
     refine Or.inr ⟨?_, by omega⟩
     rw [if_neg (by simp)]; omega
def nlx (l : List Nat) (a : Nat) : Nat := a + ix (l.drop a)
theorem zk0 {l : List Nat} {a : Nat} (h : a ≤ l.length) : a ≤ nlx l a ∧ nlx l a ≤ l.length := by
 have := z4v (l.drop a)
 rw [List.length_drop] at this
 unfold nlx; omega
def spn (l : List Nat) : Nat → Nat → List (Nat × Nat)
 | 0, _ => []
 | f + 1, a => if a < l.length then (a, nlx l a) :: spn l f (nlx l a + 1) else []
theorem zmu (l : List Nat) : ∀ f g a, l.length ≤ a + f → l.length ≤ a + g → spn l f a = spn l g a
 | 0, 0, a, _, _ => rfl
 | 0, g + 1, a, h, _ => by unfold spn; rw [if_neg (by omega)]
 | f + 1, 0, a, _, h => by unfold spn; rw [if_neg (by omega)]
 | f + 1, g + 1, a, h1, h2 => by
   unfold spn
   split
   ·rename_i h
    have := (zk0 (l := l) (a := a) (by omega)).1
    rw [zmu l f g (nlx l a + 1) (by omega) (by omega)]
   ·rfl
def spans (l : List Nat) : List (Nat × Nat) := spn l l.length 0
def spnA (l : List Nat) (a : Nat) : List (Nat × Nat) := spn l l.length a
theorem zmv {l : List Nat} {a : Nat} (h : l.length ≤ a) : spnA l a = [] := by
 unfold spnA
 rw [zmu l l.length 0 a (by omega) (by omega)]; rfl
theorem zk1 {l : List Nat} {a : Nat} (h : a < l.length) : spnA l a = (a, nlx l a) :: spnA l (nlx l a + 1) := by
 unfold spnA
 rw [zmu l l.length (l.length + 1) a (by omega) (by omega)]
 show (if a < l.length then _ else _) = _
 rw [if_pos h]
theorem zoe (l : List Nat) : ∀ f a, (spn l f a).length ≤ l.length - a
 | 0, a => Nat.zero_le _
 | f + 1, a => by
   unfold spn
   split
   ·rename_i h
    have h1 := (zk0 (l := l) (a := a) (by omega)).1
    have h2 := zoe l f (nlx l a + 1)
    simp only [List.length_cons]; omega
   ·simp
theorem zfo (l : List Nat) : (spans l).length ≤ l.length := by have := zoe l l.length 0; rwa [Nat.sub_zero] at this
theorem zt6 (l : List Nat) : ∀ f a, ∀ p ∈ spn l f a, a ≤ p.1 ∧ p.1 ≤ p.2 ∧ p.2 ≤ l.length
 | 0, a, p, h => by cases h
 | f + 1, a, p, h => by
   unfold spn at h
   split at h
   ·rename_i ha
    have h1 := zk0 (l := l) (a := a) (by omega)
    rcases List.mem_cons.1 h with rfl | h
    ·exact ⟨Nat.le_refl _, h1⟩
    ·have := zt6 l f (nlx l a + 1) p h
     omega
   ·cases h
theorem zmw {l : List Nat} {p : Nat × Nat} (h : p ∈ spans l) : p.1 ≤ p.2 ∧ p.2 ≤ l.length := (zt6 l l.length 0 p h).2
end Go.Proofs.YtgpbpgpolpakjaaGreatDoor.L
namespace Go.Proofs.YtgpbpgpolpakjaaGreatDoor.L
theorem z05 : ∀ (x : List Nat), ix x < x.length → at_ x (ix x) = 10
 | [], h => by simp at h
 | c :: x, h => by
   unfold ix at h ⊢
   by_cases hc : c = 10
   ·rw [if_pos hc]; exact hc
   ·rw [if_neg hc] at h ⊢
    have := z05 x (by simpa using h)
    exact this
theorem zw4 : ∀ (x : List Nat) (i : Nat), i < ix x → at_ x i ≠ 10
 | [], i, h => by simp [ix] at h
 | c :: x, i, h => by
   unfold ix at h
   by_cases hc : c = 10
   ·rw [if_pos hc] at h; omega
   ·rw [if_neg hc] at h
    cases i with
    | zero => exact hc
    | succ i => exact zw4 x i (by omega)
theorem zt7 (l : List Nat) (p i : Nat) : at_ (l.drop p) i = at_ l (p + i) := by unfold at_; rw [List.getElem?_drop]
theorem z7e {l : List Nat} {a : Nat} (h : nlx l a < l.length) : at_ l (nlx l a) = 10 := by
 have := z05 (l.drop a) (by rw [List.length_drop]; unfold nlx at h; omega)
 rw [zt7] at this; exact this
theorem z4b {l : List Nat} {a i : Nat} (h1 : a ≤ i) (h2 : i < nlx l a) : at_ l i ≠ 10 := by
 have := zw4 (l.drop a) (i - a) (by unfold nlx at h2; omega)
 rw [zt7, show a + (i - a) = i from by omega] at this; exact this
theorem zt8 {l : List Nat} {a i : Nat} (h1 : a ≤ i) (h2 : i ≤ l.length) (h3 : ∀ j, a ≤ j → j < i → at_ l j ≠ 10) (h4 : i < l.length → at_ l i = 10) : nlx l a = i := by
 have hle := zk0 (l := l) (a := a) (by omega)
 rcases Nat.lt_trichotomy (nlx l a) i with h | h | h
 ·exact absurd (z7e (by omega)) (h3 _ hle.1 h)
 ·exact h
 ·exact absurd (h4 (by omega)) (z4b h1 h)
section
variable {a b : List Nat}
end
def sub_ (l : List Nat) (a b : Nat) : List Nat := (l.drop a).take (b - a)
end Go.Proofs.YtgpbpgpolpakjaaGreatDoor.L
set_option maxRecDepth 100000
namespace Go.Proofs.YtgpbpgpolpakjaaGreatDoor
open Go.RowKit Go.Shelf L
attribute [local go_sem] Oper.semAt_some
theorem z7f (s : ByteArray) (a : Nat) (w : World) (ha : a ≤ s.size) :
  Calls Tryz.prog 153 #[.string (s.extract a s.size), .int .u8 10] w fun e w' => ∃ v : Int, e = .returned (.int .i64 v) ∧ w = w' ∧ ((v = -1 ∧ nlx (nb s) a = s.size) ∨ (v = ((nlx (nb s) a - a : Nat) : Int) ∧ nlx (nb s) a < s.size)) := by
 refine (Tryz.strings_IndexByte (s.extract a s.size) 10 w).mono fun e w' ⟨he, hw⟩ => ⟨_, he, hw.symm, ?_⟩
 have h := zw3 (s.extract a s.size).data.toList
 have e1 : (s.extract a s.size).data.toList.map UInt8.toNat = (nb s).drop a := zwy s a
 have e2 : (s.extract a s.size).data.toList.length = s.size - a := by
  have := congrArg List.length e1
  rw [List.length_map, List.length_drop, zf] at this
  exact this
 have e3 : Int.toNat 10 = 10 := rfl
 rw [e1, e2] at h
 unfold nlx
 rcases h with ⟨h1, h2⟩ | ⟨h1, h2⟩
 ·exact Or.inl ⟨h1, by omega⟩
 ·exact Or.inr ⟨by rw [show a + ix ((nb s).drop a) - a = ix ((nb s).drop a) from by omega]; exact h1, by omega⟩
def KpB (Bn : Nat) (W W' : World) : Prop := W'.heap[Bn]? = W.heap[Bn]?
theorem KpB.t {Bn : Nat} : ∀ {A B C : World}, KpB Bn A B → KpB Bn B C → KpB Bn A C := fun h k => k.trans h
theorem KpB.b {Bn : Nat} {w : World} (h : Bn < w.heap.size) : ∀ (W : World) (l : Nat) (o o' : Obj), w.heap.size ≤ l → W.heap[l]? = some o → o.isCells = false → o.isWalk = false → KpB Bn W (W.putObj l o') := fun W l o o' hl _ _ _ => by
 refine (grownBy_putObj' W l o').block Bn ?_ (fun e => by cases e; omega)
 rename_i h3 _ _
 have := (Array.getElem?_eq_some_iff.1 h3).1
 omega
def spE (p : Nat × Nat) : Value := .agg #[.int .i64 (p.1 : Nat), .int .i64 (p.2 : Nat)]
theorem z06 (n : Nat) (hn : 2 ≤ n) (l Bn : Nat) (s : ByteArray) (hs : s.size ≤ 1048576) (J Jx : List (Nat × Nat) → World → Prop)
  (hY : ∀ pre x W, J pre W → pre.length < (spans (nb s)).length → YieldAt Fence.wide (n - 1) Tryz.prog l #[spE x] W fun e W' =>
   (e = .returned (.bool true) ∧ J (pre ++ [x]) W' ∧ KpB Bn W W') ∨ (e = .returned (.bool false) ∧ Jx (pre ++ [x]) W'))
  (W : World) (hc : W.cell? ⟨Bn, 0, none⟩ = some (.string s)) (h0 : J [] W) :
  CallsIn Fence.wide n Tryz.prog 152 #[.func (.yield l) #[] #[], .pointer (some ⟨Bn, 0, none⟩)] W fun e W' => (∃ v, e = .returned v) ∧
   ((∃ ys, ys = spans (nb s) ∧ J ys W') ∨ (∃ pre, pre <+: spans (nb s) ∧ Jx pre W')) := by
 have HL := hid (zf s)
 refine callsIn_of_wp Tryz.func152 rfl trivial ?_ rfl
 simp only [Tryz.ntmps152, List.size_toArray, List.length_cons, List.length_nil, Nat.reduceAdd, Nat.reduceSub, Array.replicate_succ, Array.replicate_zero, List.push_toArray, List.append_toArray, List.nil_append, List.cons_append]
 gi_wp2
 gi_loopw [3] (fun av wr => ∃ (pre : List (Nat × Nat)) (a : Nat), av = .int .i64 (a : Nat) ∧ a ≤ s.size + 1 ∧ spans (nb s) = pre ++ spnA (nb s) a ∧ J pre wr ∧ wr.cell? ⟨Bn, 0, none⟩ = some (.string s))
  (fun av _ => s.size + 1 - (intOf av).toNat)
 case atStart => exact ⟨[], 0, rfl, by omega, rfl, h0, hc⟩
 case round =>
  obtain ⟨pre, a, rfl, ha, hx, hJs, hcr⟩ := hrel
  rcases Nat.lt_or_ge a s.size with h | h
  ·have hi : (a : Int) < (s.size : Int) := by omega
   have hi2 : decide ((a : Int) < (s.size : Int)) = true := decide_eq_true hi
   have hst := zk1 (l := nb s) (a := a) (by rw [HL.out]; exact h)
   have hnl := zk0 (l := nb s) (a := a) (by rw [HL.out]; omega)
   rw [HL.out] at hnl
   obtain ⟨b, hb⟩ : ∃ b, b = nlx (nb s) a := ⟨_, rfl⟩
   rw [← hb] at hst hnl
   obtain ⟨fn, tmps, assign, body, hy, hR⟩ := hY pre (a, b) wr hJs (by rw [hx, hst]; simp)
   dsimp only [spE] at hy hR
   have HX := hid (show spans (nb s) = (pre ++ [(a, b)]) ++ spnA (nb s) (b + 1) by rw [hx, hst]; simp)
   have HI := hid (fun W => z7f s a W (by omega))
   rw [← hb] at HI
   obtain ⟨k, hk⟩ : ∃ k, k = b - a := ⟨_, rfl⟩
   have hkI : (a : Int) + (k : Int) = (b : Int) := by omega
   have hbW : IntKind.i64.wrap (b : Int) = (b : Int) := by rw [IntKind.wrap_i64]; omega
   have hkW : IntKind.i64.wrap (k : Int) = (k : Int) := by rw [IntKind.wrap_i64]; omega
   have hk1W := zg k (by omega)
   have hak : (a : Int) + ((k : Int) + 1) = (b : Int) + 1 := by omega
   have hb1W := zg b (by omega)
   have hk0 : decide ((k : Int) < 0) = false := decide_eq_false (by omega)
   have HQ := hid (show (b : Int) + 1 = ((b + 1 : Nat) : Int) by omega)
   by_cases hbs : b = s.size
   ·have HI2 := hid (fun W => (HI.out W).mono (R' := fun e w' => e = .returned (.int .i64 (-1)) ∧ W = w') (fun e w' ⟨v, h1, h2, h3⟩ => ⟨by rw [h1]; rcases h3 with ⟨h4, _⟩ | ⟨_, h4⟩; rw [h4]; omega, h2⟩))
    have hsk : (s.size : Int) - (a : Int) = (k : Int) := by omega
    have HB := hid (And.intro hbs hnl)
    clear HI hb hst hx hk hbs hnl
    gi_wp2
    refine ⟨trivial, fun _ => by omega, ?_⟩
    refine (callsIn_wide.2 (HI2.out _)).mono ?_
    rintro e w' ⟨rfl, rfl⟩
    gi_wp2
    refine ⟨fun _ => by omega, ?_⟩
    refine hR.mono ?_
    rintro e W3 (⟨rfl, hJ3, hk3⟩ | ⟨rfl, hJx3⟩)
    ·have hq3 : W3.cell? ⟨Bn, 0, none⟩ = some (.string s) := (World.cell?_of_block (a := ⟨Bn, 0, none⟩) hk3).trans hcr
     gi_wp2
     go_roundw
     case rel => exact ⟨pre ++ [(a, b)], b + 1, by rw [HQ.out], by have := HB.out; omega, HX.out, hJ3, hq3⟩
     case measure => simp [intOf]; have := HB.out; omega
    ·gi_wp2
     refine bodyPost_ret (results_none rfl _ _ _) rfl ?_
     exact ⟨⟨_, rfl⟩, .inr ⟨pre ++ [(a, b)], ⟨_, HX.out.symm⟩, hJx3⟩⟩
   ·have HI2 := hid (fun W => (HI.out W).mono (R' := fun e w' => e = .returned (.int .i64 (k : Nat)) ∧ W = w') (fun e w' ⟨v, h1, h2, h3⟩ => ⟨by rw [h1]; rcases h3 with ⟨_, h4⟩ | ⟨h4, _⟩; exact absurd h4 hbs; rw [h4, hk], h2⟩))
    have HB := hid (And.intro hbs hnl)
    clear HI hb hst hx hk hbs hnl
    gi_wp2
    refine ⟨trivial, fun _ => by omega, ?_⟩
    refine (callsIn_wide.2 (HI2.out _)).mono ?_
    rintro e w' ⟨rfl, rfl⟩
    gi_wp2
    refine ⟨fun _ => by omega, ?_⟩
    refine hR.mono ?_
    rintro e W3 (⟨rfl, hJ3, hk3⟩ | ⟨rfl, hJx3⟩)
    ·have hq3 : W3.cell? ⟨Bn, 0, none⟩ = some (.string s) := (World.cell?_of_block (a := ⟨Bn, 0, none⟩) hk3).trans hcr
     gi_wp2
     go_roundw
     case rel => exact ⟨pre ++ [(a, b)], b + 1, by rw [HQ.out], by have := HB.out; omega, HX.out, hJ3, hq3⟩
     case measure => simp [intOf]; have := HB.out; omega
    ·gi_wp2
     refine bodyPost_ret (results_none rfl _ _ _) rfl ?_
     exact ⟨⟨_, rfl⟩, .inr ⟨pre ++ [(a, b)], ⟨_, HX.out.symm⟩, hJx3⟩⟩
  ·have hi : decide ((a : Int) < (s.size : Int)) = false := decide_eq_false (by omega)
   have hiN : ¬ (a < s.size) := by omega
   have hE := hid (zmv (l := nb s) (a := a) (by rw [HL.out]; exact h))
   gi_wp2
   go_end0
   exact ⟨⟨_, rfl⟩, .inl ⟨pre, by rw [hx, hE.out, List.append_nil], hJs⟩⟩
theorem z07 (s : ByteArray) (w : World) : Calls Tryz.prog 114 #[.string s] w fun e w' => e = .returned (.func (.func 152) #[] #[.pointer (some ⟨w.heap.size, 0, none⟩)]) ∧ w' = w.alloc (.cells #[.string s] 9) := by
 go_enter Tryz.func114, Tryz.ntmps114
 go_wp2_with fail
 go_ret
 exact ⟨rfl, rfl⟩
theorem zvp (n : Nat) (hn : 2 ≤ n) (Bn : Nat) (s : ByteArray) (hs : s.size ≤ 1048576) (w : World) (hBn : Bn < w.heap.size) (hc : w.cell? ⟨Bn, 0, none⟩ = some (.string s)) :
  SeqStopsK Fence.wide n Tryz.prog 152 #[.pointer (some ⟨Bn, 0, none⟩)] (fun x : Nat × Nat => #[spE x]) (KpB Bn) (fun ys => ys = spans (nb s)) (fun pre => pre <+: spans (nb s)) (spans (nb s)).length w := fun l J Jx W hW _ _ hY h0 =>
 z06 n hn l Bn s hs J Jx hY W ((hW.cell (p := ⟨Bn, 0, none⟩) hBn).trans hc) h0
attribute [local go_sem] Oper.semAt_some
theorem Tryz.infoSpan : (Tryz.prog.info? 94).map (fun i => (i.zero, i.size, i.bytes)) = some (some (.agg #[.int .i64 0, .int .i64 0]), 2, 16) := by kernel_rfl
theorem cell_two_at (w : World) (x y : Value) (e : TypeId) (k : Nat) (hk : k = w.heap.size) : ∀ j u, [x, y][j]? = some u → (w.alloc (.cells #[x, y] e)).cell? ((⟨k, 0, none⟩ : Addr).add j) = some u := by
 subst hk
 intro j u hu
 rw [zdk, (za.new w e #[x, y]).cell j]
 simpa using hu
theorem z7g {β : Type} (B : Nat) (t : TypeId) (f : β → Array Value) : Own (fun s W => za W B t (f s)) := fun s X Y row hs hg hrow =>
 hs.kept (hg.block B hs.lt (fun e' => by obtain ⟨o, ho, hc⟩ := hrow B e'.symm; rw [show X.heap[B]? = _ from hs] at ho; cases ho; cases hc))
def spC (xs : List (Nat × Nat)) : List Value := xs.flatMap fun p => [.int .i64 (p.1 : Nat), .int .i64 (p.2 : Nat)]
theorem zmx (xs : List (Nat × Nat)) (p : Nat × Nat) : spC (xs ++ [p]) = spC xs ++ [.int .i64 (p.1 : Nat), .int .i64 (p.2 : Nat)] := by unfold spC; rw [List.flatMap_append]; simp
theorem zyh (xs : List (Nat × Nat)) : (spC xs).length = xs.length * 2 := by
 induction xs with
 | nil => rfl
 | cons p xs ih => unfold spC at *; simp only [List.flatMap_cons, List.length_append, List.length_cons, List.length_nil, ih]; omega
theorem zqt (s : ByteArray) (w : World) (hs : s.size ≤ 1048576) :
  Calls Tryz.prog 67 #[.string s] w fun e w' => ((spans (nb s)).length ≤ 4096 ∧ (∃ A c, e = .returned (.tuple #[.slice A (spans (nb s)).length c, .int .i64 0]) ∧ w'.ownsRow w.heap.size 94 2 (.slice A (spans (nb s)).length c) (spans (nb s)).length (spC (spans (nb s)))) ∨ 4096 < (spans (nb s)).length ∧ e = .returned (.tuple #[.slice none 0 0, .int .i64 9])) ∧ Below w.heap.size w w' := by
 obtain ⟨i0, hi, hz0, hz1, hz2⟩ := info_parts Tryz.infoSpan
 have d1 : decide ((s.size : Int) > 1048576) = false := decide_eq_false (by omega)
 have d1N : ¬ (1048576 < s.size) := by omega
 refine (callsIn_wide (n := 8)).1 ?_
 refine callsIn_of_wp_marks Tryz.func67 rfl trivial ?_ rfl
 simp only [Tryz.ntmps67, List.size_toArray, List.length_cons, List.length_nil, Nat.reduceAdd, Nat.reduceSub, Array.replicate_succ, Array.replicate_zero, List.push_toArray, List.append_toArray, List.nil_append, List.cons_append]
 gi_wp2
 refine ⟨trivial, ?_⟩
 refine (callsIn_wide.2 (z07 s _)).mono ?_
 rintro e w1 ⟨rfl, rfl⟩
 gi_wp2
 obtain ⟨h, hh⟩ : ∃ h, h = w.heap.size := ⟨_, rfl⟩
 have b0 := (((Boxed.new w 102 (.slice none 0 0)).alloc (.cells #[.int .i64 0] 24)).alloc (.cells #[.slice none 0 0] 102)).alloc (.cells #[.string s] 9)
 have b1 := ((Boxed.new (w.alloc (.cells #[.slice none 0 0] 102)) 24 (.int .i64 0)).alloc (.cells #[.slice none 0 0] 102)).alloc (.cells #[.string s] 9)
 have b2 := (Boxed.new ((w.alloc (.cells #[.slice none 0 0] 102)).alloc (.cells #[.int .i64 0] 24)) 102 (.slice none 0 0)).alloc (.cells #[.string s] 9)
 have b3 := Boxed.new (((w.alloc (.cells #[.slice none 0 0] 102)).alloc (.cells #[.int .i64 0] 24)).alloc (.cells #[.slice none 0 0] 102)) 9 (.string s)
 simp only [World.size_alloc] at b1 b2 b3
 have hB0 : Below w.heap.size w ((((w.alloc (.cells #[.slice none 0 0] 102)).alloc (.cells #[.int .i64 0] 24)).alloc (.cells #[.slice none 0 0] 102)).alloc (.cells #[.string s] 9)) := ((((Below.refl _ w).alloc (Nat.le_refl _) _).alloc (by simp) _).alloc (by simp; omega) _).alloc (by simp; omega) _
 have hsz : ((((w.alloc (.cells #[.slice none 0 0] 102)).alloc (.cells #[.int .i64 0] 24)).alloc (.cells #[.slice none 0 0] 102)).alloc (.cells #[.string s] 9)).heap.size = w.heap.size + 4 := by simp
 obtain ⟨W0, hW0⟩ : ∃ W0, (((w.alloc (.cells #[.slice none 0 0] 102)).alloc (.cells #[.int .i64 0] 24)).alloc (.cells #[.slice none 0 0] 102)).alloc (.cells #[.string s] 9) = W0 := ⟨_, rfl⟩
 rw [hW0] at b0 b1 b2 b3 hB0 hsz ⊢
 clear hW0
 refine wpIn_rangeFunc_ownH (n := 8) rfl (by omega) (gf := 152) (lb := #[.pointer (some ⟨w.heap.size + 1 + 1 + 1, 0, none⟩)]) rfl trivial (enters_of Tryz.func152 (by kernel_rfl) rfl)
  (zvp (8 - 1) (by omega) (w.heap.size + 1 + 1 + 1) s hs W0 (by omega) b3.cell) KpB.t (KpB.b (by omega)) (Below.refl _ _) (fun _ => rfl)
  (fun pre W => ((∃ v, Boxed W (w.heap.size + 1 + 1) 102 v ∧ W.ownsRow w.heap.size 94 2 v pre.length (spC pre) ∧ True) ∧ (Boxed W w.heap.size 102 (.slice none 0 0) ∧ Boxed W (w.heap.size + 1) 24 (.int .i64 0)) ∧ Boxed W (w.heap.size + 1 + 1 + 1) 9 (.string s)) ∧ Below w.heap.size w W ∧ pre.length ≤ 4096)
  (fun c pre W => ((Boxed W w.heap.size 102 (.slice none 0 0) ∧ Boxed W (w.heap.size + 1) 24 (.int .i64 9)) ∧ c = .ret) ∧ Below w.heap.size w W ∧ 4096 < pre.length)
  (OwnFrom.and (OwnFrom.and (Own.from (holdsRow_own w.heap.size (w.heap.size + 1 + 1) 102 94 2 (fun pre => pre.length) spC (fun _ _ => True)) _) (OwnFrom.and (OwnFrom.and (Own.from (boxed_own _ _ (fun _ => .slice none 0 0)) _) (Own.from (boxed_own _ _ (fun _ => .int .i64 0)) _)) (Own.from (boxed_own _ _ (fun _ => .string s)) _))) (OwnFrom.and (ownFrom_below (Nat.le_refl _) (by omega)) (ownFrom_pure _ _)))
  (fun c => OwnFrom.and (OwnFrom.and (OwnFrom.and (Own.from (boxed_own _ _ (fun _ => .slice none 0 0)) _) (Own.from (boxed_own _ _ (fun _ => .int .i64 9)) _)) (ownFrom_pure _ _)) (OwnFrom.and (ownFrom_below (Nat.le_refl _) (by omega)) (ownFrom_pure _ _)))
  ⟨⟨⟨_, b2, World.ownsRow_nil _ _ _ _, trivial⟩, ⟨b0, b1⟩, b3⟩, hB0, by simp⟩
  (fun x a' W => ∃ Bx, w.heap.size + 1 + 1 + 1 < Bx ∧ za W Bx 94 #[.int .i64 (x.1 : Nat), .int .i64 (x.2 : Nat)] ∧ a' = { tmps := #[.string s, undef, .pointer (some ⟨w.heap.size, 0, none⟩), .pointer (some ⟨w.heap.size + 1, 0, none⟩), .pointer (some ⟨w.heap.size + 1 + 1, 0, none⟩), .pointer (some ⟨Bx, 0, none⟩), .string s, .int .i64 s.size, .bool false, .string s, .func (.func 152) #[] #[.pointer (some ⟨w.heap.size + 1 + 1 + 1, 0, none⟩)], spE x, undef, undef, undef, undef, undef, undef, undef, undef], defers := [] })
  (fun x a' _ X Y row hs hg hr => by obtain ⟨Bx, h1, h2, h3⟩ := hs; exact ⟨Bx, h1, z7g Bx 94 (fun (_ : Unit) => #[.int .i64 (x.1 : Nat), .int .i64 (x.2 : Nat)]) () X Y row h2 hg (fun r e => (hr r e).2), h3⟩)
  ?assign ?body ?done ?stop
 case assign =>
  rintro l pre x W K ⟨⟨⟨v, bO, hrow, _⟩, ⟨c0, c1⟩, c3⟩, hB, hlen⟩ hK
  unfold spE at hK ⊢
  gi_wp2
  exact hK _ _ ((KeepsOthers.alloc _ _).from _) (Below.heap_alloc W _ _ c3.lt) ⟨⟨⟨v, bO.alloc _, hrow.alloc _, trivial⟩, ⟨c0.alloc _, c1.alloc _⟩, c3.alloc _⟩, hB.alloc hB.size _, hlen⟩ ⟨W.heap.size, c3.lt, za.new W _ _, rfl⟩
 case body =>
  rintro l pre x a' W hl ⟨r, hr⟩ ⟨⟨⟨v, bO, hrow, _⟩, ⟨c0, c1⟩, c3⟩, hB, hlen⟩ ⟨Bx, hBx, bX, rfl⟩ hlt
  obtain ⟨A, cc, rfl⟩ := zam hrow
  have kO := bO.cell
  have kO' := bO.frozen
  have kX0 := bX.cell 0
  have kX1 := bX.cell 1
  by_cases hp : pre.length = 4096
  ·have hpI : ((pre.length : Int) == 4096) = true := by rw [beq_iff_eq]; omega
   have HP := hid hp
   have k0 := c0.cell
   have k0' := c0.frozen
   have k1 := c1.cell
   have k1' := c1.frozen
   clear hp
   gi_wp2
   exact ⟨((KeepsOthers.setCell _ _ _).trans (KeepsOthers.setCell _ _ _)).from _, ⟨⟨⟨(c0.set _).other (by omega) _, (c1.other (by omega) _).set _⟩, rfl⟩, (hB.setCell (p := ⟨w.heap.size, 0, none⟩) (Nat.le_refl _) _).setCell (p := ⟨w.heap.size + 1, 0, none⟩) (by simp) _, by rw [List.length_append]; have := HP.out; simp; omega⟩⟩
  ·have hpI : ((pre.length : Int) == 4096) = false := by rw [beq_eq_false_iff_ne]; omega
   have hsW := hB.size
   gi_wp2_with (gi_at_builtin; refine wpListIn_append_own _ rfl (.tmp 15) (.tmp 17) 102 rfl w.heap.size 94 i0 _ 2 16 Tryz.underlying102 hi hz0 hz1 hz2 rfl (by decide) _ _ _ rfl (hrow.alloc _) ⟨W.heap.size, 0, none⟩ 1 1 [.int .i64 (x.1 : Nat), .int .i64 (x.2 : Nat)] rfl rfl (cell_two_at _ _ _ _ _ rfl) (by simp [Value.oneCell']) (by simp only [maxLen]; omega) (by omega) (by simp; omega) ?_; intro v' w1 hown' hgrow _; obtain ⟨g', cap', rfl⟩ := ownsRow_succ hown'; obtain ⟨hv1, hv2, hr2, hk2, hb2⟩ := bO.appended (by decide) hrow hB.size (by omega) hown' hgrow; have hc1 := hv1.cell; have hf1 := hv1.frozen)
   have c3' := ((c3.alloc _).kept hgrow (c3.not_row (by decide) hrow)).other (B' := w.heap.size + 1 + 1) (by omega) (.slice (some ⟨g', 0, none⟩) (pre.length + 1) cap')
   have c1' := ((c1.alloc _).kept hgrow (c1.not_row (by decide) hrow)).other (B' := w.heap.size + 1 + 1) (by omega) (.slice (some ⟨g', 0, none⟩) (pre.length + 1) cap')
   have c0' := ((c0.alloc _).kept hgrow (c0.not_row (by decide) hrow)).other (B' := w.heap.size + 1 + 1) (by omega) (.slice (some ⟨g', 0, none⟩) (pre.length + 1) cap')
   exact ⟨hk2.from _, Eq.trans (show _ = _ from c3') (Eq.symm (show _ = _ from c3)), ⟨⟨_, hv2, by rw [zmx, List.length_append]; exact hr2, trivial⟩, ⟨c0', c1'⟩, c3'⟩, hB.trans hb2, by rw [List.length_append]; simp; omega⟩
 case done =>
  rintro D ys W hD rfl ⟨⟨⟨v, bO, hrow, _⟩, ⟨c0, c1⟩, c3⟩, hB, hlen⟩ hK
  have kO := bO.cell
  have k0 := c0.cell
  have k0' := c0.frozen
  have k1 := c1.cell
  have k1' := c1.frozen
  obtain ⟨A, cc, rfl⟩ := zam hrow
  gi_wp2
  have hK1 := (KeepsOthers.setCell W ⟨w.heap.size, 0, none⟩ (.slice A (spans (nb s)).length cc)).same D _ hK rfl
  have hK2 := (KeepsOthers.setCell (W.setCell ⟨w.heap.size, 0, none⟩ (.slice A (spans (nb s)).length cc)) ⟨w.heap.size + 1, 0, none⟩ (.int .i64 0)).same D _ hK1 rfl
  have e0 := (c0.set (.slice A (spans (nb s)).length cc)).other (B' := w.heap.size + 1) (by omega) (.int .i64 0)
  have e1 := (c1.other (B' := w.heap.size) (by omega) (.slice A (spans (nb s)).length cc)).set (.int .i64 0)
  have r1 := (hrow.kept (grownBy_setCell' W w.heap.size (.slice A (spans (nb s)).length cc)) (.inr (c0.not_row (by decide) hrow).symm))
  have r2 := (r1.kept (grownBy_setCell' _ (w.heap.size + 1) (.int .i64 0)) (.inr ((c1.other (B' := w.heap.size) (by omega) (.slice A (spans (nb s)).length cc)).not_row (by decide) r1).symm))
  refine ⟨by simp, .inl ⟨_, _, rfl, run_takeDeferred hK2, ?_⟩⟩
  have f0 := cell_kept e0.cell (grownBy_putObj' _ D (.deferred none)) (fun r e => by cases e; exact ⟨_, hK2, rfl⟩)
  have f1 := cell_kept e1.cell (grownBy_putObj' _ D (.deferred none)) (fun r e => by cases e; exact ⟨_, hK2, rfl⟩)
  refine ⟨.tuple #[.slice A (spans (nb s)).length cc, .int .i64 0], ?_, .inl ⟨hlen, A, cc, rfl, ownsRow_putObj r2 _ hK2 rfl⟩, ((hB.setCell (p := ⟨w.heap.size, 0, none⟩) (Nat.le_refl _) _).setCell (p := ⟨w.heap.size + 1, 0, none⟩) (by simp) _).trans (belowK_b (w := w) (Nat.le_refl _) _ D _ _ (by omega) hK2 rfl rfl)⟩
  simp [results, Tryz.f67, go_sem, f0, f1]
 case stop =>
  rintro D c pre W hD hpre ⟨⟨⟨c0, c1⟩, rfl⟩, hB, hlen⟩ hK
  gi_wp2
  refine ⟨by simp, .inl ⟨_, _, rfl, run_takeDeferred hK, ?_⟩⟩
  have f0 := cell_kept c0.cell (grownBy_putObj' _ D (.deferred none)) (fun r e => by cases e; exact ⟨_, hK, rfl⟩)
  have f1 := cell_kept c1.cell (grownBy_putObj' _ D (.deferred none)) (fun r e => by cases e; exact ⟨_, hK, rfl⟩)
  have hpl : pre.length ≤ (spans (nb s)).length := hpre.length_le
  refine ⟨.tuple #[.slice none 0 0, .int .i64 9], ?_, .inr ⟨by omega, rfl⟩, hB.trans (belowK_b (w := w) (Nat.le_refl _) _ D _ _ (by omega) hK rfl rfl)⟩
  simp [results, Tryz.f67, go_sem, f0, f1]
theorem Tryz.infoRec : (Tryz.prog.info? 96).map (fun i => (i.zero, i.size, i.bytes)) = some (some (.agg #[.int .i64 0, .int .i64 0, .int .i64 0, .int .i64 0]), 4, 32) := by kernel_rfl
structure RecN where
 a : Nat
 b : Nat
 v : Nat
 p : Nat
def recN (l : List Nat) (deep : Nat) (p : Nat × Nat) : RecN := ⟨p.1, p.2, (verd (sub_ l p.1 p.2) deep).1, (verd (sub_ l p.1 p.2) deep).2⟩
def recs (l : List Nat) (deep : Nat) : List RecN := (spans l).map (recN l deep)
def recV (r : RecN) : List Value := [.int .i64 (r.a : Nat), .int .i64 (r.b : Nat), .int .i64 (r.v : Nat), .int .i64 (r.p : Nat)]
def recC (rs : List RecN) : List Value := rs.flatMap recV
theorem zqu (rs : List RecN) (r : RecN) : recC (rs ++ [r]) = recC rs ++ recV r := by unfold recC; rw [List.flatMap_append]; simp
theorem zvq (rs : List RecN) : (recC rs).length = rs.length * 4 := by
 induction rs with
 | nil => rfl
 | cons r rs ih => unfold recC at *; simp only [List.flatMap_cons, List.length_append, List.length_cons, ih]; show 4 + _ = _; omega
theorem flat_get {α : Type} {f : α → List Value} {k : Nat} (hf : ∀ x, (f x).length = k) : ∀ (xs : List α) (i j : Nat) (hi : i < xs.length), j < k → (xs.flatMap f)[i * k + j]? = (f xs[i])[j]?
 | [], i, j, hi, hj => by simp at hi
 | x :: xs, 0, j, hi, hj => by
   rw [Nat.zero_mul, Nat.zero_add, List.flatMap_cons, List.getElem?_append_left (by rw [hf]; exact hj)]; rfl
 | x :: xs, i + 1, j, hi, hj => by
   have hi' : i < xs.length := by simpa using hi
   have ih := flat_get hf xs i j hi' hj
   rw [List.flatMap_cons, List.getElem?_append_right (by rw [hf, Nat.add_mul]; omega), hf, show (i + 1) * k + j - k = i * k + j from by rw [Nat.add_mul]; omega, ih]
   rfl
theorem zje {w : World} {A : Option Addr} {xs : List (Nat × Nat)} (h : Lst w A (spC xs)) {i : Nat} (hi : i < xs.length) : ∃ g o, A = some ⟨g, o, none⟩ ∧ w.cell? ⟨g, o + i * 2, none⟩ = some (.int .i64 (xs[i].1 : Nat)) ∧ w.cell? ⟨g, o + i * 2 + 1, none⟩ = some (.int .i64 (xs[i].2 : Nat)) := by
 obtain ⟨g, o, rfl, _, hc⟩ := h.litS (by rw [zyh]; omega)
 refine ⟨g, o, rfl, hc (i * 2) _ ?_, hc (i * 2 + 1) _ ?_⟩
 ·have := flat_get (f := fun p : Nat × Nat => [Value.int .i64 (p.1 : Nat), .int .i64 (p.2 : Nat)]) (k := 2) (fun _ => rfl) xs i 0 hi (by omega)
  exact this
 ·exact flat_get (f := fun p : Nat × Nat => [Value.int .i64 (p.1 : Nat), .int .i64 (p.2 : Nat)]) (k := 2) (fun _ => rfl) xs i 1 hi (by omega)
theorem zfg {w : World} {A : Option Addr} {xs : List RecN} (h : Lst w A (recC xs)) {i : Nat} (hi : i < xs.length) : ∃ g o, A = some ⟨g, o, none⟩ ∧ w.cell? ⟨g, o + i * 4, none⟩ = some (.int .i64 (xs[i].a : Nat)) ∧ w.cell? ⟨g, o + i * 4 + 1, none⟩ = some (.int .i64 (xs[i].b : Nat)) ∧ w.cell? ⟨g, o + i * 4 + 2, none⟩ = some (.int .i64 (xs[i].v : Nat)) ∧ w.cell? ⟨g, o + i * 4 + 3, none⟩ = some (.int .i64 (xs[i].p : Nat)) := by
 obtain ⟨g, o, rfl, _, hc⟩ := h.litS (by rw [zvq]; omega)
 exact ⟨g, o, rfl, hc (i * 4) _ (flat_get (f := recV) (k := 4) (fun _ => rfl) xs i 0 hi (by omega)), hc (i * 4 + 1) _ (flat_get (f := recV) (k := 4) (fun _ => rfl) xs i 1 hi (by omega)),
  hc (i * 4 + 2) _ (flat_get (f := recV) (k := 4) (fun _ => rfl) xs i 2 hi (by omega)), hc (i * 4 + 3) _ (flat_get (f := recV) (k := 4) (fun _ => rfl) xs i 3 hi (by omega))⟩
theorem z4c {w : World} {base base' : Nat} {e : TypeId} {size : Nat} {v : Value} {n : Nat} {xs : List Value} (h : w.ownsRow base e size v n xs) (hb : base' ≤ base) : w.ownsRow base' e size v n xs :=
 ⟨h.1, h.2.imp id fun ⟨g, cap, cur, h1, h2, h3⟩ => ⟨g, cap, cur, h1, Nat.le_trans hb h2, h3⟩⟩
theorem zdq {w : World} {base size : Nat} {e : TypeId} {A : Option Addr} {n c : Nat} {xs : List Value} (h : w.ownsRow base e size (.slice A n c) n xs) (hs : 0 < size) : Lst w A xs := Lst.of_own h hs
theorem zk2 (w : World) (x y z u : Value) (e : TypeId) (k : Nat) (hk : k = w.heap.size) : ∀ j v, [x, y, z, u][j]? = some v → (w.alloc (.cells #[x, y, z, u] e)).cell? ((⟨k, 0, none⟩ : Addr).add j) = some v := by
 subst hk
 intro j v hv
 rw [zdk, (za.new w e #[x, y, z, u]).cell j]
 simpa using hv
theorem zmb (s : ByteArray) (deep : Nat) (w : World) (hs : s.size ≤ 1048576) (h1 : 1 ≤ deep) (h2 : deep ≤ 4096) (hn : (spans (nb s)).length ≤ 4096) :
  Calls Tryz.prog 60 #[.string s, .int .i64 (deep : Nat)] w fun e w' => ∃ A c, e = .returned (.tuple #[.slice A (recs (nb s) deep).length c, .int .i64 0]) ∧ w'.ownsRow w.heap.size 96 4 (.slice A (recs (nb s) deep).length c) (recs (nb s) deep).length (recC (recs (nb s) deep)) ∧ Below w.heap.size w w' := by
 obtain ⟨i0, hi, hz0, hz1, hz2⟩ := info_parts Tryz.infoRec
 have HL := hid (zf s)
 have d1 : decide ((deep : Int) < 1) = false := decide_eq_false (by omega)
 have d1N : ¬ (deep < 1) := by omega
 have d2 : decide ((deep : Int) > 4096) = false := decide_eq_false (by omega)
 have d2N : ¬ (4096 < deep) := by omega
 have LI := hid (fun W => (zqt s W hs).mono (R' := fun e w' => ∃ A c, e = .returned (.tuple #[.slice A (spans (nb s)).length c, .int .i64 0]) ∧ Lst w' A (spC (spans (nb s))) ∧ Below W.heap.size W w') (fun e w' ⟨h3, h4⟩ => by
  rcases h3 with ⟨_, A, c, h5, h6⟩ | ⟨h5, _⟩
  ·exact ⟨A, c, h5, zdq h6 (by omega), h4⟩
  ·omega))
 have HIN := hid (fun p (h : p ∈ spans (nb s)) => (show p.1 ≤ p.2 ∧ p.2 ≤ s.size from by have := zmw h; rw [HL.out] at this; exact this))
 have hrl : (recs (nb s) deep).length = (spans (nb s)).length := by unfold recs; rw [List.length_map]
 rw [hrl]
 have HRE := hid (show recs (nb s) deep = (spans (nb s)).map (recN (nb s) deep) from rfl)
 obtain ⟨X, hX⟩ : ∃ X, X = spans (nb s) := ⟨_, rfl⟩
 rw [← hX] at LI HIN HRE hn ⊢
 clear hX hrl
 go_enter Tryz.func60, Tryz.ntmps60
 go_wp2_with fail
 (with_reducible refine (LI.out _).mono ?_)
 rintro e w1 ⟨A, c, rfl, hlst, hB1⟩
 go_wp2_with fail
 go_loopw [8, 30] (fun ov iv wr => ∃ (j : Nat) (Ao : Option Addr) (co : Nat), iv = .int .i64 (j : Nat) ∧ ov = .slice Ao j co ∧ j ≤ X.length ∧ wr.ownsRow w1.heap.size 96 4 (.slice Ao j co) j (recC ((X.take j).map (recN (nb s) deep))) ∧ Below w1.heap.size w1 wr) (fun _ iv _ => X.length - (intOf iv).toNat)
 case atStart => exact ⟨0, none, 0, rfl, rfl, by omega, World.ownsRow_nil _ _ _ _, Below.refl _ _⟩
 case round =>
  obtain ⟨j, Ao, co, rfl, rfl, hj, hown, hB⟩ := hrel
  have hsz := hB.size
  rcases Nat.lt_or_ge j X.length with hlt | hge
  ·have hji : (j : Int) < (X.length : Int) := by omega
   have hji2 : decide ((j : Int) < (X.length : Int)) = true := decide_eq_true hji
   have hj0 : (0 : Int) ≤ (j : Int) := by omega
   have hjW := zg j (by omega)
   obtain ⟨g, o, rfl, k0, k1⟩ := zje (hlst.below hB) hlt
   have hin := HIN.out X[j] (List.getElem_mem hlt)
   have HT := hid (show (X.take (j + 1)).map (recN (nb s) deep) = (X.take j).map (recN (nb s) deep) ++ [recN (nb s) deep X[j]] by rw [List.take_succ_eq_append_getElem hlt, List.map_append]; rfl)
   obtain ⟨p, hp⟩ : ∃ p, p = X[j] := ⟨_, rfl⟩
   rw [← hp] at k0 k1 hin HT
   clear hp
   obtain ⟨p1, p2⟩ := p
   dsimp only at k0 k1 hin
   have hp12 : (p1 : Int) ≤ (p2 : Int) := by omega
   have hp2s : (p2 : Int) ≤ (s.size : Int) := by omega
   have hp10 : (0 : Int) ≤ (p1 : Int) := by omega
   have VA := hid (fun W => zqb (s.extract p1 p2) deep W h1 h2)
   have HX := hid (show nb (s.extract p1 p2) = sub_ (nb s) p1 p2 from zgi s p1 p2)
   have HRN := hid (show recN (nb s) deep (p1, p2) = ⟨p1, p2, (verd (nb (s.extract p1 p2)) deep).1, (verd (nb (s.extract p1 p2)) deep).2⟩ by rw [HX.out]; rfl)
   obtain ⟨vd, hvd⟩ : ∃ vd, vd = verd (nb (s.extract p1 p2)) deep := ⟨_, rfl⟩
   rw [← hvd] at VA HRN
   clear hvd
   obtain ⟨v, pl⟩ := vd
   have bX := za.new wr 94 #[.int .i64 (p1 : Nat), .int .i64 (p2 : Nat)]
   go_wp2_with fail
   (with_reducible refine (VA.out _).mono ?_)
   rintro e w3 ⟨rfl, hB3⟩
   have bX3 := bX.below hB3
   have x0 := bX3.cell 0
   have x1 := bX3.cell 1
   have hsz3 := hB3.size
   have hown3 : w3.ownsRow w1.heap.size 96 4 (.slice Ao j co) j (recC ((X.take j).map (recN (nb s) deep))) := zac (S := fun _ => False) (hown.alloc _) (Only.of_below hB3) (fun _ _ h => h)
   have hBB3 := (hB.alloc hsz (.cells #[.int .i64 (p1 : Nat), .int .i64 (p2 : Nat)] 94)).trans (hB3.mono (by simp; omega))
   have hs3 : w1.heap.size ≤ w3.heap.size := hBB3.size
   go_wp2_with (at_builtin
                go_must (refine wpList_append_own_at _ rfl (.tmp 46) (.tmp 51) 87 rfl w1.heap.size 96 i0 _ 4 32 Tryz.underlying87 hi hz0 hz1 hz2 rfl (by decide) (.slice Ao j co) j _ rfl (hown3.alloc _) ⟨w3.heap.size, 0, none⟩ 1 1 [.int .i64 (p1 : Nat), .int .i64 (p2 : Nat), .int .i64 (v : Nat), .int .i64 (pl : Nat)] rfl rfl (zk2 _ _ _ _ _ _ _ rfl) ?hone ?h63 ?hby ?hbs ?_)
                go_must (case hone => simp [Value.oneCell'])
                go_must (case h63 => simp only [maxLen]; omega)
                go_must (case hby => omega)
                go_must (case hbs => simp; omega)
                intro v2 w4 hown4 hgr4 _ hat4)
   obtain ⟨A4, c4, rfl⟩ := zam hown4
   have hB4 : Below w1.heap.size w1 w4 := (hBB3.alloc hs3 _).grown hgr4 (by simp; omega) (fun k hk => (hown3.lt k hk).1)
   go_roundw
   case rel => exact ⟨j + 1, A4, c4, by go_num, rfl, by omega, by rw [HT.out, zqu, HRN.out]; exact hown4, hB4⟩
   case measure => simp [intOf]; omega
  ·obtain rfl : j = X.length := by omega
   go_wp2_with fail
   go_ret2
   exact ⟨Ao, co, rfl, by rw [HRE.out]; rw [List.take_length] at hown; exact z4c hown hB1.size, hB1.trans (hB.mono hB1.size)⟩
def lo24 (n : Nat) (a : Int) : Nat := (min (max a 0) (n : Int)).toNat
def hi24 (n : Nat) (a b : Int) : Nat := (min (max b (lo24 n a : Int)) (n : Int)).toNat
theorem zof (s : ByteArray) (a b : Int) (v p : Value) (hv : v.oneCell' = true) (hp : p.oneCell' = true) (w : World) (hs : s.size ≤ 9223372036854775807) :
  Calls Tryz.prog 61 #[.string s, .agg #[.int .i64 a, .int .i64 b, v, p]] w fun e w' => e = .returned (.string (s.extract (lo24 s.size a) (hi24 s.size a b))) ∧ Below w.heap.size w w' := by
 obtain ⟨x, hx⟩ : ∃ x, x = lo24 s.size a := ⟨_, rfl⟩
 obtain ⟨y, hy⟩ : ∃ y, y = hi24 s.size a b := ⟨_, rfl⟩
 have hxI : min (max a 0) (s.size : Int) = (x : Int) := by rw [hx]; unfold lo24; omega
 have hyI : min (max b (x : Int)) (s.size : Int) = (y : Int) := by rw [hy]; unfold hi24; rw [← hx]; omega
 have hxs : (x : Int) ≤ (s.size : Int) := by omega
 have hxy : (x : Int) ≤ (y : Int) := by omega
 have hys : (y : Int) ≤ (s.size : Int) := by omega
 have hx0 : (0 : Int) ≤ (x : Int) := by omega
 rw [← hx, ← hy]
 clear hx hy
 go_enter Tryz.func61, Tryz.ntmps61
 go_wp2_with fail
 go_ret
 exact ⟨rfl, (Below.refl _ _).alloc (Nat.le_refl _) _⟩
end Go.Proofs.YtgpbpgpolpakjaaGreatDoor
