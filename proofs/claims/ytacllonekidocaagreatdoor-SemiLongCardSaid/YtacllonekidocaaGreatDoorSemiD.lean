/- Walks: how many bits an index takes (semi); how many marks stand ahead of a place. -/
import Derived.Test.YtacllonekidocaaGreatDoorMarkF
import Derived.Test.YtacllonekidocaaGreatDoorFloatC
import Derived.Test.YtacllonekidocaaGreatDoorFanoQ

set_option linter.unusedVariables false
set_option linter.unusedSimpArgs false
set_option maxRecDepth 100000
namespace Go.Proofs.YtacllonekidocaaGreatDoor
open Go.RowKit Go.Shelf L

set_option maxHeartbeats 1000000 in
theorem over_tight (s : Nat) (l : List Nat) (B : Nat) (w : World) (hs : SeqAt w s l B) (hr : RightN l B) :
    ∃ N : Nat, N ≤ (l.length + top l B) / 2 + 512 ∧ ∀ n, Calls Tryz.prog 73 #[.pointer (some ⟨s, 0, none⟩)] (w.drewN n) fun e w' => e = .returned (.int .i64 (N : Nat)) ∧ ∃ m, w' = (w.drewN n).drewN m := by
  obtain ⟨gl, Al, cL, gc, gd, gx, A, c, Ad, cd, A1, c1, l1, A0, c0, l0, hb, hl, hc⟩ := hs
  have K4 := hid (show ∀ n, (w.drewN n).cell? ⟨s, 4, none⟩ = some (.pointer (some ⟨gc, 0, none⟩)) from fun n => hb.cell 4)
  have hslt := hb.lt
  have b1 := hc.half1.1
  have b0 := hc.half0.1
  have hsum := kc_both (high (wd l.length B) (top l B) l)
  have hhl : (high (wd l.length B) (top l B) l).length = l.length + top l B := high_length (wd l.length B) (top l B) l (hr.up _) (Nat.le_trans (hr.last _) (Nat.le_succ _))
  have HS := hid (fun W hW => chSize_any gc gd gx A c (high (wd l.length B) (top l B) l) Ad cd A1 c1 l1 A0 c0 l0 W hW)
  have hN : 128 * ((high (wd l.length B) (top l B) l).length / 512 + 1) + 64 * (l1.length + l0.length) ≤ (l.length + top l B) / 2 + 512 := by omega
  refine ⟨_, hN, fun n => ?_⟩
  have HS2 := hid (HS.out (w.drewN n) hc)
  have k4 := K4.out n
  clear hb hl hc b1 b0 hsum hhl hN HS K4
  generalize 128 * ((high (wd l.length B) (top l B) l).length / 512 + 1) + 64 * (l1.length + l0.length) = N at *
  go_enter Tryz.func73, Tryz.ntmps73
  go_wp2_with fail
  refine (HS2.out).mono ?_
  rintro e w1 ⟨rfl, m, rfl⟩
  go_wp2_with fail
  go_ret
  exact ⟨rfl, m, by first | rfl | simp⟩

set_option maxHeartbeats 1000000 in
theorem nSize_tight (s : Nat) (bs : List Bool) (w : World) (hs : NestAt w s bs) (hsm : bs.length ≤ 4294967296) :
    ∃ N : Nat, N ≤ 3 * bs.length + 2560 ∧ ∀ n, Calls Tryz.prog 74 #[.pointer (some ⟨s, 0, none⟩)] (w.drewN n) fun e w' => e = .returned (.int .i64 (N : Nat)) ∧ ∃ m, w' = (w.drewN n).drewN m := by
  obtain ⟨gx, gt, gl, gc, gd, A, c, hh, Ad, cd, A1, c1, l1, A0, c0, l0, h1, h2, h3⟩ := hs
  have k1 : w.cell? ⟨s, 1, none⟩ = some (.pointer (some ⟨gt, 0, none⟩)) := h1.cell 1
  have k2 : w.cell? ⟨s, 2, none⟩ = some (.pointer (some ⟨gc, 0, none⟩)) := h1.cell 2
  have HM := hid (fun W hW => mmSize_any gt gl gx A c bs hh W hW)
  have HC := hid (fun W hW => chSize_any gc gd gx A c bs Ad cd A1 c1 l1 A0 c0 l0 W hW)
  have hszb : 640 * 2 ^ hh ≤ 5 * bs.length / 2 + 2048 := by
    rcases h2.least with h0 | h0
    · subst h0; simp
    · omega
  have q1 := h3.half1.1
  have q0 := h3.half0.1
  have qb := kc_both bs
  have hsz4 : 128 * (bs.length / 512 + 1) + 64 * (l1.length + l0.length) ≤ bs.length / 2 + 512 := by omega
  have hb2 : 640 * 2 ^ hh + (128 * (bs.length / 512 + 1) + 64 * (l1.length + l0.length)) ≤ 3 * bs.length + 2560 := by omega
  refine ⟨640 * 2 ^ hh + (128 * (bs.length / 512 + 1) + 64 * (l1.length + l0.length)), hb2, fun n => ?_⟩
  generalize 640 * 2 ^ hh = sz at *
  generalize 128 * (bs.length / 512 + 1) + 64 * (l1.length + l0.length) = sy at *
  have k1n : (w.drewN n).cell? ⟨s, 1, none⟩ = some (.pointer (some ⟨gt, 0, none⟩)) := k1
  have k2n : (w.drewN n).cell? ⟨s, 2, none⟩ = some (.pointer (some ⟨gc, 0, none⟩)) := k2
  have h2n : TreeAt (w.drewN n) gt gl gx A c bs hh := h2
  have h3n : ChooserAt (w.drewN n) gc gd gx A c bs Ad cd A1 c1 l1 A0 c0 l0 := h3
  clear h1 h2 h3 k1 k2 hszb hsz4 q1 q0 qb
  generalize w.drewN n = W at *
  go_enter Tryz.func74, Tryz.ntmps74
  go_wp2_with fail
  go_quiet ((first
    | (go_at_call 108; exact quiet_left (HM.out _ (by exact h2n)))
    | (go_at_call 107; exact quiet_join (HC.out _ (by exact h3n)))))
  go_wp2_with fail
  go_ret
  exact ⟨by first | rfl | simp, by first | exact ⟨_, rfl⟩ | exact ⟨_, World.drewN_drewN _ _ _⟩ | exact ⟨_, (World.drewN_drewN _ _ _).symm⟩⟩

theorem semiUnder_high (g : Nat) (s : ByteArray) (x : Int) (w : World) (hi : IdxAt w g s) (h : (bndN (nb s) : Int) ≤ x) :
    Calls Tryz.prog 11 #[.pointer (some ⟨g, 0, none⟩), .int .i64 x] w fun e w' => e = .returned (.int .i64 ((places (nb s)).length : Nat)) ∧ Below w.heap.size w w' := by
  obtain ⟨q, y, t, Ax, cx, h1, h2, h3, h4⟩ := hi
  have k0 := h1.cell 0
  have HL := hid (less_high q (places (nb s)) (bndN (nb s)) x w h2 (bnd_pos _) h)
  clear h1 h2 h3 h4
  generalize places (nb s) = P at *
  go_enter Tryz.func11, Tryz.ntmps11
  go_wp2_with fail
  refine (HL.out).mono ?_
  rintro e w' ⟨rfl, hB⟩
  go_wp2_with fail
  go_ret
  exact ⟨rfl, hB⟩

/-- What an index takes at most. -/
def L.szMax (l : List Nat) : Nat := (places l).length * wd (places l).length (bndN l) + ((places l).length + top (places l) (bndN l)) + (parens l).length + ((places l).length + top (places l) (bndN l)) / 2 + 512 + 3 * (parens l).length + 2560

set_option maxHeartbeats 2000000 in
theorem semiSizes_any (g : Nat) (s : ByteArray) (w : World) (hi : IdxAt w g s) (hs : (nb s).length ≤ 65536) (hm : (places (nb s)).length ≤ 10000) :
    Calls Tryz.prog 33 #[.pointer (some ⟨g, 0, none⟩)] w fun e w' => ∃ a b : Nat, e = .returned (.complex .f64 (fl (a : Int)) (fl (b : Int))) ∧ a + b ≤ szMax (nb s) ∧ a + b ≤ 9000000 ∧ ∃ m, w' = w.drewN m := by
  obtain ⟨q, y, t, Ax, cx, h1, h2, h3, h4⟩ := hi
  have k0 := h1.cell 0
  have k1 := h1.cell 1
  have k2 := h1.cell 2
  have hpl : (parens (nb s)).length = 2 * (places (nb s)).length := by rw [parens_length, places_length]
  have hR := places_right (l := nb s) (by omega)
  have hF := places_few hs hm
  have hwd := wd_le (places (nb s)).length (bndN (nb s)) hR.1.2
  have htop : top (places (nb s)) (bndN (nb s)) ≤ 100001 := by have := hF.2; unfold top; omega
  have hmw : (places (nb s)).length * wd (places (nb s)).length (bndN (nb s)) ≤ 10000 * 40 := Nat.mul_le_mul hm hwd
  have HZ := hid (fun W hW => size_any q (places (nb s)) (bndN (nb s)) W hW hR hF)
  obtain ⟨N1, hN1, ho⟩ := over_tight q (places (nb s)) (bndN (nb s)) w h2 hR
  obtain ⟨N2, hN2, hnn⟩ := nSize_tight t (parens (nb s)) w h4 (by omega)
  have HO := hid ho
  have HN := hid hnn
  clear ho hnn
  have HL := hid (fun W hc => rlen_any y ((parens (nb s)).length : Nat) W hc)
  have hcl := h3.cells.2
  have HMX := hid (show szMax (nb s) = (places (nb s)).length * wd (places (nb s)).length (bndN (nb s)) + ((places (nb s)).length + top (places (nb s)) (bndN (nb s))) + (parens (nb s)).length + ((places (nb s)).length + top (places (nb s)) (bndN (nb s))) / 2 + 512 + 3 * (parens (nb s)).length + 2560 from rfl)
  have hz2 : (places (nb s)).length + top (places (nb s)) (bndN (nb s)) ≤ 110001 := by omega
  have hz3 : (parens (nb s)).length ≤ 20000 := by omega
  clear h1 h3 hR hF hwd hpl htop
  generalize szMax (nb s) = mx at *
  generalize (places (nb s)).length * wd (places (nb s)).length (bndN (nb s)) = z1 at *
  generalize (places (nb s)).length + top (places (nb s)) (bndN (nb s)) = z2 at *
  generalize (parens (nb s)).length = z3 at *
  have hw1 : IntKind.i64.wrap (((z1 + z2 : Nat) : Int) + (z3 : Int)) = ((z1 + z2 + z3 : Nat) : Int) := by rw [IntKind.wrap_i64]; omega
  have hw1b : IntKind.i64.wrap ((z1 : Int) + (z2 : Int) + (z3 : Int)) = ((z1 + z2 + z3 : Nat) : Int) := by rw [IntKind.wrap_i64]; omega
  have hw2 : IntKind.i64.wrap ((N1 : Int) + (N2 : Int)) = ((N1 + N2 : Nat) : Int) := by rw [IntKind.wrap_i64]; omega
  go_enter Tryz.func33, Tryz.ntmps33
  go_wp2_with fail
  go_quiet ((first
    | (go_at_call 71; exact quiet_join (HZ.out _ (by exact h2)))
    | (go_at_call 72; exact quiet_left (HL.out _ (by exact hcl)))
    | (go_at_call 73; exact quiet_join (HO.out _))
    | (go_at_call 74; exact quiet_join (HN.out _))))
  go_wp2_with fail
  go_ret
  refine ⟨z1 + z2 + z3, N1 + N2, ?_, by rw [HMX.out]; omega, by omega, _, rfl⟩
  have e1 : ((z1 + z2 + z3 : Nat) : Int) = (z1 : Int) + (z2 : Int) + (z3 : Int) := by omega
  have e2 : ((N1 + N2 : Nat) : Int) = (N1 : Int) + (N2 : Int) := by omega
  rw [e1, e2]
  first | rfl | simp [fl]
end Go.Proofs.YtacllonekidocaaGreatDoor
