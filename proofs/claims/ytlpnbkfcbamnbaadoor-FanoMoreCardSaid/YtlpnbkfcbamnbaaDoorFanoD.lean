/- Walks: numbers that rise: a number, and how many stand ahead of a part. -/
import Derived.Test.YtlpnbkfcbamnbaaDoorFanoC
set_option linter.unusedVariables false
set_option linter.unusedSimpArgs false
set_option maxRecDepth 100000
namespace Go.Proofs.YtlpnbkfcbamnbaaDoor
open Go.RowKit Go.Shelf L

theorem quiet_join {P : Program} {f : Nat} {args : Array Value} {v : Value} {w : World} {n : Nat} (h : Calls P f args (w.drewN n) fun e w' => e = .returned v ∧ ∃ m, w' = (w.drewN n).drewN m) :
    Calls P f args (w.drewN n) fun e w'' => e = .returned v ∧ ∃ m, w'' = w.drewN m :=
  h.mono fun _ _ ⟨he, m, hw⟩ => ⟨he, n + m, by rw [hw, World.drewN_drewN]⟩
theorem i64_or_nat (a b : Nat) (ha : a < 9223372036854775808) (hb : b < 9223372036854775808) : bits .or .i64 (a : Int) (b : Int) = ((a ||| b : Nat) : Int) := by
  have hx : a ||| b < 2 ^ 63 := Nat.or_lt_two_pow (by omega) (by omega)
  show IntKind.i64.wrap ((BitVec.ofInt 64 (a : Int) ||| BitVec.ofInt 64 (b : Int)).toNat : Int) = _
  rw [BitVec.toNat_or, ofInt_u64 a (by omega), ofInt_u64 b (by omega), IntKind.wrap_i64]
  omega
theorem L.cl_zero (l : List Nat) : cl l 0 = 0 := List.countP_eq_zero.2 (fun y _ => by simp)
/-- The place that parts the lesser ones from the others. -/
theorem L.cl_parts {l : List Nat} (h : Ris l) (x : Nat) : (∀ y ∈ l.take (cl l x), y < x) ∧ ∀ y ∈ l.drop (cl l x), x ≤ y := by
  constructor
  · intro y hy
    obtain ⟨j, hj, rfl⟩ := List.mem_iff_getElem.1 hy
    rw [List.length_take] at hj
    rw [List.getElem_take]
    exact (cl_lt h (by omega)).2 (by omega)
  · intro y hy
    obtain ⟨j, hj, rfl⟩ := List.mem_iff_getElem.1 hy
    rw [List.length_drop] at hj
    rw [List.getElem_drop]
    have := (cl_lt h (x := x) (j := cl l x + j) (by omega))
    omega
/-- A part's 0, by the numbers ahead of it. -/
theorem L.part_zero {l : List Nat} {w T p : Nat} (hu : UpL w 0 l) (h : Ris l) (hp : p < T) :
    bitAt (high w T l) (cl l ((p + 1) * 2 ^ w) + p) = false ∧ cl l ((p + 1) * 2 ^ w) + p < (high w T l).length ∧ kc false (high w T l) (cl l ((p + 1) * 2 ^ w) + p) = p := by
  obtain ⟨j, hj⟩ : ∃ j, j = cl l ((p + 1) * 2 ^ w) := ⟨_, rfl⟩
  have hc := cl_parts h ((p + 1) * 2 ^ w)
  have hle := cl_le l ((p + 1) * 2 ^ w)
  rw [← hj] at *
  have e : l = l.take j ++ l.drop j := (List.take_append_drop j l).symm
  have hz := zero_at (w := w) (top := T) (l1 := l.take j) (l2 := l.drop j) (p := p) (by rw [← e]; exact hu)
    (lastP_le w p _ 0 (Nat.zero_le _) (fun x hx => by have := (part_lt w x (p + 1)).2 (hc.1 x hx); omega))
    (fun x hx => by
      have hm : x ∈ l.drop j := List.mem_of_mem_head? hx
      have := hc.2 x hm
      have h2 := part_lt w x (p + 1)
      omega) hp
  rw [← e, List.length_take, Nat.min_eq_left hle] at hz
  exact hz

set_option maxHeartbeats 400000 in
theorem seqLen_any (s : Nat) (l : List Nat) (B : Nat) (w : World) (hs : SeqAt w s l B) :
    Calls Tryd.prog 18 #[.pointer (some ⟨s, 0, none⟩)] w fun e w' => e = .returned (.int .i64 (l.length : Nat)) ∧ w = w' := by
  obtain ⟨gl, Al, cl, gc, gd, gx, A, c, Ad, cd, A1, c1, l1, A0, c0, l0, hb, hl, hc⟩ := hs
  have k0 : w.cell? ⟨s, 0, none⟩ = some (.int .i64 (l.length : Nat)) := hb.cell 0
  go_enter Tryd.func18, Tryd.ntmps18
  go_wp2
  go_ret
  exact ⟨rfl, rfl⟩
set_option maxHeartbeats 400000 in
theorem seqBound_any (s : Nat) (l : List Nat) (B : Nat) (w : World) (hs : SeqAt w s l B) :
    Calls Tryd.prog 19 #[.pointer (some ⟨s, 0, none⟩)] w fun e w' => e = .returned (.int .i64 (B : Nat)) ∧ w = w' := by
  obtain ⟨gl, Al, cl, gc, gd, gx, A, c, Ad, cd, A1, c1, l1, A0, c0, l0, hb, hl, hc⟩ := hs
  have k1 : w.cell? ⟨s, 1, none⟩ = some (.int .i64 (B : Nat)) := hb.cell 1
  go_enter Tryd.func19, Tryd.ntmps19
  go_wp2
  go_ret
  exact ⟨rfl, rfl⟩

set_option maxHeartbeats 600000 in
theorem sget_raw (s : Nat) (l : List Nat) (B i : Nat) (w : World) (hs : SeqAt w s l B) (hT : Tab w) (hB2 : B ≤ 1099511627776) (hup : UpL (wd l.length B) 0 l) (hi : i < l.length) (hxB : l[i] < 4611686018427387904) (hf : Few l B) :
    Calls Tryd.prog 64 #[.pointer (some ⟨s, 0, none⟩), .int .i64 (i : Nat)] w fun e w' => e = .returned (.int .i64 (l[i] : Nat)) ∧ Below w.heap.size w w' := by
  obtain ⟨gl, Al, cl, gc, gd, gx, A, c, Ad, cd, A1, c1, l1, A0, c0, l0, hb, hl, hc⟩ := hs
  have k2 : w.cell? ⟨s, 2, none⟩ = some (.int .i64 (wd l.length B : Nat)) := hb.cell 2
  have k3 : w.cell? ⟨s, 3, none⟩ = some (.pointer (some ⟨gl, 0, none⟩)) := hb.cell 3
  have k4 : w.cell? ⟨s, 4, none⟩ = some (.pointer (some ⟨gc, 0, none⟩)) := hb.cell 4
  have hsl := hb.lt
  have hn := hf.1
  have hwd := wd_le l.length B hB2
  have htop : (B - 1) / 2 ^ wd l.length B ≤ 100000 := hf.2
  clear hf
  generalize wd l.length B = W at *
  have hspl : l.take i ++ l[i] :: l.drop (i + 1) = l := by rw [← List.drop_eq_getElem_cons hi, List.take_append_drop]
  have hli : (l.take i).length = i := by rw [List.length_take]; omega
  have ho := one_at (w := W) (top := top l B) (l1 := l.take i) (l2 := l.drop (i + 1)) (x := l[i]) (by rw [hspl]; exact hup)
  have hg := low_get W (l.take i) (l.drop (i + 1)) l[i]
  rw [hspl, hli] at ho hg
  have hlen := lows_length W l
  have hin : i * W + W ≤ (lows W l).length := by
    rw [hlen, ← Nat.succ_mul]; exact Nat.mul_le_mul_right _ hi
  have HO := hid (show ∀ w', Below w.heap.size w w' → _ from fun w' (hw : Below w.heap.size w w') => chOne_at gc gd gx A c (high W (top l B) l) Ad cd A1 c1 l1 A0 c0 l0 i (i + l[i] / 2 ^ W) w' (hc.below hw) (hT.below hw) ho.2.1 ho.1 ho.2.2)
  have HG := hid (fun w' (hw : RowAt w' gl Al cl (lows W l)) => rField_ok gl Al cl (lows W l) (i * W) W w' hw (by omega) hin)
  rw [hg] at HG
  generalize l[i] = x at *
  have hxm : x / 2 ^ W * 2 ^ W + x % 2 ^ W = x := by rw [Nat.mul_comm]; exact Nat.div_add_mod x (2 ^ W)
  have hrlt : x % 2 ^ W < 2 ^ W := Nat.mod_lt _ (Nat.two_pow_pos W)
  have hjoin : x / 2 ^ W * 2 ^ W ||| x % 2 ^ W = x := by rw [nat_join W _ _ (Nat.mul_mod_left _ _) hrlt, hxm]
  have hX : (((x / 2 ^ W : Nat) : Int)) * 2 ^ W = ((x / 2 ^ W * 2 ^ W : Nat) : Int) := by norm_cast
  have hiW : (i : Int) * (W : Int) = ((i * W : Nat) : Int) := by norm_cast
  have hiWb : i * W ≤ 10000 * 40 := Nat.mul_le_mul (by omega) hwd
  have hpi : ((i + x / 2 ^ W : Nat) : Int) - (i : Int) = ((x / 2 ^ W : Nat) : Int) := by omega
  have hqx : x / 2 ^ W ≤ x := Nat.div_le_self _ _
  generalize i * W = m at *
  generalize x / 2 ^ W * 2 ^ W = X at *
  generalize hrr : x % 2 ^ W = r at *
  generalize x / 2 ^ W = q at *
  have hor : bits BinOp.or IntKind.i64 (X : Int) (r : Int) = (x : Int) := by rw [i64_or_nat X r (by omega) (by omega), hjoin]
  have hXw : IntKind.i64.wrap (X : Int) = (X : Int) := by rw [IntKind.wrap_i64]; omega
  have hmw : IntKind.i64.wrap (m : Int) = (m : Int) := by rw [IntKind.wrap_i64]; omega
  have hrw : IntKind.i64.wrap (r : Int) = (r : Int) := by rw [IntKind.wrap_i64]; omega
  generalize hP : i + q = P at *
  clear hjoin hxm hrlt hrr hg ho hup hin hlen hspl hli hc
  have hB0 := Below.refl w.heap.size w
  go_enter Tryd.func64, Tryd.ntmps64
  go_wp2_with fail
  refine (HO.out _ hB0).mono ?_
  rintro e w1 ⟨rfl, hB1⟩
  have k2a := (hB1.cell (p := ⟨s, 2, none⟩) hsl).trans k2
  have k3a := (hB1.cell (p := ⟨s, 3, none⟩) hsl).trans k3
  have hl1 := hl.below hB1
  go_wp2_with fail
  go_quiet ((go_at_call 82; exact quiet_join (HG.out _ (by exact hl1))))
  go_wp2_with fail
  have hB2 : Below w.heap.size w (w1.drewN nq) := ⟨hB1.os, hB1.tape, hB1.output, hB1.size, hB1.block⟩
  go_ret
  exact ⟨rfl, hB2⟩

theorem sget_any (s : Nat) (l : List Nat) (B i : Nat) (w : World) (hs : SeqAt w s l B) (hT : Tab w) (hr : RightN l B) (hf : Few l B) (hi : i < l.length) :
    Calls Tryd.prog 64 #[.pointer (some ⟨s, 0, none⟩), .int .i64 (i : Nat)] w fun e w' => e = .returned (.int .i64 (l[i] : Nat)) ∧ Below w.heap.size w w' :=
  sget_raw s l B i w hs hT hr.1.2 (hr.up _) hi (by have := hr.2.2 _ (List.getElem_mem hi); have := hr.1.2; omega) hf

set_option maxHeartbeats 1000000 in
theorem sGet_in (s : Nat) (l : List Nat) (B i : Nat) (w : World) (hs : SeqAt w s l B) (hT : Tab w) (hr : RightN l B) (hf : Few l B) (hi : i < l.length) :
    Calls Tryd.prog 20 #[.pointer (some ⟨s, 0, none⟩), .int .i64 (i : Nat)] w fun e w' => e = .returned (.tuple #[.int .i64 (l[i] : Nat), .int .i64 0]) ∧ Below w.heap.size w w' := by
  have HG := hid (sget_any s l B i w hs hT hr hf hi)
  obtain ⟨gl, Al, cl, gc, gd, gx, A, c, Ad, cd, A1, c1, l1, A0, c0, l0, hb, hl, hc⟩ := hs
  have k0 : w.cell? ⟨s, 0, none⟩ = some (.int .i64 (l.length : Nat)) := hb.cell 0
  have g0 : decide ((i : Int) < 0) = false := decide_eq_false (by omega)
  have g1 : decide ((i : Int) ≥ (l.length : Int)) = false := decide_eq_false (by omega)
  clear hb hl hc hr hf
  generalize l[i] = x at *
  go_enter Tryd.func20, Tryd.ntmps20
  go_wp2_with fail
  (with_reducible refine (HG.out).mono ?_)
  rintro e w1 ⟨rfl, hB1⟩
  go_wp2_with fail
  go_ret2
  exact ⟨rfl, hB1⟩
set_option maxHeartbeats 1000000 in
theorem sGet_out (s : Nat) (l : List Nat) (B : Nat) (i : Int) (w : World) (hs : SeqAt w s l B) (hi : i < 0 ∨ (l.length : Int) ≤ i) :
    Calls Tryd.prog 20 #[.pointer (some ⟨s, 0, none⟩), .int .i64 i] w fun e w' => e = .returned (.tuple #[.int .i64 0, .int .i64 2]) ∧ w = w' := by
  obtain ⟨gl, Al, cl, gc, gd, gx, A, c, Ad, cd, A1, c1, l1, A0, c0, l0, hb, hl, hc⟩ := hs
  have k0 : w.cell? ⟨s, 0, none⟩ = some (.int .i64 (l.length : Nat)) := hb.cell 0
  clear hb hl hc
  by_cases h0 : i < 0
  · have g0 : decide (i < 0) = true := decide_eq_true h0
    go_enter Tryd.func20, Tryd.ntmps20
    go_wp2_with fail
    go_ret2
    exact ⟨rfl, rfl⟩
  · have g0 : decide (i < 0) = false := decide_eq_false h0
    have g1 : decide (i ≥ (l.length : Int)) = true := decide_eq_true (by omega)
    have g2 : (l.length : Int) ≤ i := by omega
    go_enter Tryd.func20, Tryd.ntmps20
    go_wp2_with fail
    go_ret2
    exact ⟨rfl, rfl⟩

set_option maxHeartbeats 1000000 in
theorem sfirst_any (s : Nat) (l : List Nat) (B p : Nat) (w : World) (hs : SeqAt w s l B) (hT : Tab w) (hr : RightN l B) (hf : Few l B) (hp : p ≤ top l B) :
    Calls Tryd.prog 66 #[.pointer (some ⟨s, 0, none⟩), .int .i64 (p : Nat)] w fun e w' => e = .returned (.int .i64 (cl l (p * 2 ^ wd l.length B) : Nat)) ∧ Below w.heap.size w w' := by
  rcases Nat.eq_zero_or_pos p with h0 | h0
  · subst h0
    have HC := hid (show L.cl l (0 * 2 ^ wd l.length B) = 0 by rw [Nat.zero_mul, cl_zero])
    go_enter Tryd.func66, Tryd.ntmps66
    go_wp2_with fail
    go_ret
    exact ⟨by rw [HC.out]; rfl, Below.refl _ _⟩
  · obtain ⟨q, rfl⟩ : ∃ q, p = q + 1 := ⟨p - 1, by omega⟩
    obtain ⟨gl, Al, cL, gc, gd, gx, A, c, Ad, cd, A1, c1, l1, A0, c0, l0, hb, hl, hc⟩ := hs
    have k4 : w.cell? ⟨s, 4, none⟩ = some (.pointer (some ⟨gc, 0, none⟩)) := hb.cell 4
    have hup := hr.up (wd l.length B)
    have hpz := part_zero (w := wd l.length B) (T := top l B) (p := q) hup hr.2.1 (by omega)
    have hcl := cl_le l ((q + 1) * 2 ^ wd l.length B)
    have hn := hf.1
    have htop : (B - 1) / 2 ^ wd l.length B ≤ 100000 := hf.2
    have ht : top l B = (B - 1) / 2 ^ wd l.length B + 1 := rfl
    have hq : q ≤ 100000 := by omega
    generalize L.cl l ((q + 1) * 2 ^ wd l.length B) = j at *
    have HZ := hid (chZero_at gc gd gx A c (high (wd l.length B) (top l B) l) Ad cd A1 c1 l1 A0 c0 l0 q (j + q) w hc hT hpz.2.1 hpz.1 hpz.2.2)
    have g0 : (((q + 1 : Nat) : Int) == 0) = false := by rw [beq_eq_false_iff_ne]; omega
    have hsub : ((q + 1 : Nat) : Int) - 1 = (q : Int) := by omega
    have hres : ((j + q : Nat) : Int) - ((q + 1 : Nat) : Int) + 1 = (j : Int) := by omega
    clear hb hl hc hr hf hup hpz ht htop hp
    generalize hr : q + 1 = r at *
    have hr1 : r ≤ 100001 := by omega
    have hr0 : 1 ≤ r := by omega
    generalize hP : j + q = P at *
    have hP1 : P ≤ 110001 := by omega
    clear hr hP
    go_enter Tryd.func66, Tryd.ntmps66
    go_wp2_with fail
    (with_reducible refine (HZ.out).mono ?_)
    rintro e w1 ⟨rfl, hB1⟩
    go_wp2_with fail
    go_ret
    exact ⟨by first | rfl | (rw [hres]) | go_num, hB1⟩

end Go.Proofs.YtlpnbkfcbamnbaaDoor
