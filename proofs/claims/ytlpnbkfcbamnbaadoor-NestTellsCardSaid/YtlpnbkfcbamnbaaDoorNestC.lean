/- Walks: a node's children, one by one (nest). -/
import Derived.Test.YtlpnbkfcbamnbaaDoorNestB
import Derived.Test.YtlpnbkfcbamnbaaDoorMathW
import Derived.Test.YtlpnbkfcbamnbaaDoorFanoQ
import Derived.BigQuiet
set_option linter.unusedVariables false
set_option linter.unusedSimpArgs false
set_option maxRecDepth 100000
namespace Go.Proofs.YtlpnbkfcbamnbaaDoor
open Go.RowKit Go.Shelf L
attribute [local go_sem] Oper.semAt_some

theorem children_any (s : Nat) (i : Int) (w : World) : Calls Tryd.prog 74 #[.pointer (some ⟨s, 0, none⟩), .int .i64 i] w fun e w' => e = .returned (.func (.func 116) #[] #[.pointer (some ⟨w.heap.size + 1, 0, none⟩), .pointer (some ⟨w.heap.size, 0, none⟩)]) ∧ w' = (w.alloc (.cells #[.pointer (some ⟨s, 0, none⟩)] 44)).alloc (.cells #[.int .i64 i] 3) := by
  go_enter Tryd.func74, Tryd.ntmps74
  go_wp2_with fail
  go_ret
  first | exact ⟨rfl, rfl⟩ | (refine ⟨?_, rfl⟩; simp)

/-- What a body of a loop over children keeps. -/
def KidsK (lo Bs Bp : Nat) (A B : World) : Prop := Below lo A B ∧ (∀ t v, Boxed A Bs t v → Boxed B Bs t v) ∧ ∀ t v, Boxed A Bp t v → Boxed B Bp t v
theorem KidsK.drewN (lo Bs Bp : Nat) (A : World) (m : Nat) : KidsK lo Bs Bp A (A.drewN m) := ⟨below_drewN (Below.refl _ _) _, fun _ _ h => h, fun _ _ h => h⟩
theorem kidsK_t {lo Bs Bp : Nat} {A B C : World} (h : KidsK lo Bs Bp A B) (k : KidsK lo Bs Bp B C) : KidsK lo Bs Bp A C := ⟨h.1.trans k.1, fun t v x => k.2.1 t v (h.2.1 t v x), fun t v x => k.2.2 t v (h.2.2 t v x)⟩
theorem kidsK_b {lo Bs Bp : Nat} {w : World} (hn : lo ≤ w.heap.size) (W : World) (l : Nat) (o o' : Obj) (hl : w.heap.size ≤ l) (h : W.heap[l]? = some o) (hc : o.isCells = false) (hk : o.isWalk = false) : KidsK lo Bs Bp W (W.putObj l o') :=
  ⟨belowK_b hn W l o o' hl h hc hk, fun t v x => x.kept (grownBy_putObj' W l o') (fun e => by cases e; rw [show W.heap[_]? = _ from x] at h; cases h; cases hc), fun t v x => x.kept (grownBy_putObj' W l o') (fun e => by cases e; rw [show W.heap[_]? = _ from x] at h; cases h; cases hc)⟩

set_option maxHeartbeats 1000000 in
theorem children_in (n : Nat) (hn : 2 ≤ n) (y Bs Bp s : Nat) (bs : List Bool) (u : Nat) (w : World) (hs : NestAt w s bs) (b : Bal (bitAt bs) bs.length) (hu : bitAt bs u = true)
    (J Jx : List (Nat × Nat) → World → Prop) (W : World) (hcs : Boxed W Bs 44 (.pointer (some ⟨s, 0, none⟩))) (hcp : Boxed W Bp 3 (.int .i64 (u : Nat))) (hW : Below w.heap.size w W) (hJ : AbidesFrom W.heap.size J)
    (hY : ∀ pre x W1, J pre W1 → pre.length < kids (bitAt bs) bs.length u → YieldAt Fence.wide (n - 1) Tryd.prog y (amE x) W1 fun e W' =>
      (e = .returned (.bool true) ∧ J (pre ++ [x]) W' ∧ KidsK w.heap.size Bs Bp W1 W') ∨ (e = .returned (.bool false) ∧ Jx (pre ++ [x]) W'))
    (h0 : J [] W) :
    CallsIn Fence.wide n Tryd.prog 116 #[.func (.yield y) #[] #[], .pointer (some ⟨Bp, 0, none⟩), .pointer (some ⟨Bs, 0, none⟩)] W fun e W' => (∃ v, e = .returned v) ∧
      ((∃ ys, ys = chl (bitAt bs) bs.length u ∧ J ys W') ∨ (∃ pre, pre <+: chl (bitAt bs) bs.length u ∧ Jx pre W')) := by
  have hl := bitAt_lt hu
  have hsm := hs.small
  have HND := hid (show ∀ i W', Below w.heap.size w W' → Calls Tryd.prog 73 #[.pointer (some ⟨s, 0, none⟩), .int .i64 (i : Nat)] W' fun e w' => e = .returned (.bool (bitAt bs i)) ∧ W' = w' from fun i W' hW' => by
    have := nnode_any s bs (i : Nat) W' (hs.below hW'); rwa [rowBit_nat] at this)
  have HCL := hid (show ∀ i W', bitAt bs i = true → Below w.heap.size w W' → Calls Tryd.prog 90 #[.pointer (some ⟨s, 0, none⟩), .int .i64 (i : Nat)] W' fun e w' => e = .returned (.int .i64 ((behN (bitAt bs) bs.length i : Int) - 1)) ∧ ∃ m, w' = W'.drewN m from fun i W' hi hW' => by
    have := nclose_any s bs i W' (hs.below hW') (bitAt_lt hi); rwa [(b.behN hi (bitAt_lt hi)).2.2.2.2.2] at this)
  have HT := hid (fun k => kid_true b hu hl k)
  have HE := hid (kid_false b hu hl)
  have HL := hid (fun k => kid_lt b hu hl k)
  have HC := hid (fun k => chl_succ (bitAt bs) bs.length u (k := k))
  have HA := hid (chl_all (bitAt bs) bs.length u)
  have HN := hid (chl_length (bitAt bs) bs.length u)
  have HKL := hid (kids_le (bitAt bs) bs.length u)
  have HNX := hid (fun k => (rfl : kid (bitAt bs) bs.length u (k + 1) = behN (bitAt bs) bs.length (kid (bitAt bs) bs.length u k)))
  have hk0 : kid (bitAt bs) bs.length u 0 = u + 1 := rfl
  have hup := wrap_one u (by omega)
  clear hs b hu
  have hsW := hW.size
  have ks := hcs.cell
  have kp := hcp.cell
  refine callsIn_of_wp Tryd.func116 rfl trivial ?_ rfl
  simp only [Tryd.ntmps116, List.size_toArray, List.length_cons, List.length_nil, Nat.reduceAdd, Nat.reduceSub, Array.replicate_succ, Array.replicate_zero, List.push_toArray, List.append_toArray, List.nil_append, List.cons_append]
  gi_wp2
  gi_loopw [4, 5] (fun kv av wr => ∃ k : Nat, k ≤ kids (bitAt bs) bs.length u ∧ kv = .int .i64 (k : Nat) ∧ av = .int .i64 (kid (bitAt bs) bs.length u k : Nat) ∧ J ((chl (bitAt bs) bs.length u).take k) wr ∧ KidsK w.heap.size Bs Bp W wr)
    (fun kv _ _ => kids (bitAt bs) bs.length u - (intOf kv).toNat)
  case atStart => exact ⟨0, Nat.zero_le _, rfl, by rw [hk0]; rfl, h0, ⟨Below.refl _ _, fun _ _ h => h, fun _ _ h => h⟩⟩
  case round =>
    obtain ⟨k, hk, rfl, rfl, hJi, hKi⟩ := hrel
    have hBi := hW.trans hKi.1
    have hsi := hBi.size
    have hcs2 := hKi.2.1 _ _ hcs
    have ks2 := hcs2.cell
    have hkb := (HL.out k hk).2
    have hkl := HKL.out
    have hkw := wrap_one (kid (bitAt bs) bs.length u k) (by omega)
    have hkw2 := wrap_one k (by omega)
    rcases Nat.lt_or_ge k (kids (bitAt bs) bs.length u) with h | h
    · have hT := HT.out k h
      have hx := HC.out k h
      have hlen : ((chl (bitAt bs) bs.length u).take k).length < kids (bitAt bs) bs.length u := by rw [List.length_take, HN.out]; omega
      have HK1 := hid (HL.out (k + 1) (by omega)).2
      obtain ⟨nx, hnx⟩ : ∃ nx, nx = kid (bitAt bs) bs.length u (k + 1) := ⟨_, rfl⟩
      have HN1 := hid (show behN (bitAt bs) bs.length (kid (bitAt bs) bs.length u k) = nx by rw [hnx]; rfl)
      have HN2 := hid hnx
      have hnb : nx < bs.length := by rw [hnx]; exact HK1.out
      clear hnx
      have HX := hid hx
      have HG1 := hid (HND.out (kid (bitAt bs) bs.length u k) _ hBi)
      rw [hT] at HG1
      have HTT := hid hT
      clear hx hT
      generalize kid (bitAt bs) bs.length u k = a at *
      have hsW2 := hsi
      gi_wp2
      refine ⟨trivial, fun _ => by omega, ?_⟩
      refine (callsIn_wide.2 (HG1.out)).mono ?_
      rintro e w' ⟨rfl, rfl⟩
      obtain ⟨fn, tmps, assign, body, hy, hR⟩ := hY _ (k, a) wr hJi hlen
      dsimp only [amE] at hy hR
      rw [← HX.out] at hR
      gi_wp2
      refine ⟨fun _ => by omega, ?_⟩
      refine hR.mono ?_
      rintro e W3 (⟨rfl, hJ3, hk3⟩ | ⟨rfl, hJx3⟩)
      · have hb3 := hBi.trans hk3.1
        have hs3 := hb3.size
        have ks3 := (hk3.2.1 _ _ hcs2).cell
        gi_wp2
        refine ⟨trivial, fun _ => by omega, ?_⟩
        have HCC := hid (HCL.out a _ HTT.out hb3)
        rw [HN1.out] at HCC
        refine (callsIn_wide.2 HCC.out).mono ?_
        rintro e w4 ⟨rfl, m4, rfl⟩
        gi_wp2
        go_roundw
        case rel => exact ⟨k + 1, by omega, by go_num, by first | (rw [← HN2.out]; done) | (rw [← HN2.out]; go_num), abide_below hJ hJ3 (below_drewN (Below.refl _ _) _), kidsK_t hKi (kidsK_t hk3 (KidsK.drewN _ _ _ _ _))⟩
        case measure => simp [intOf]; omega
      · gi_wp2
        go_end0
        refine ⟨⟨_, rfl⟩, .inr ⟨_, List.take_prefix _ _, hJx3⟩⟩
    · obtain rfl : k = kids (bitAt bs) bs.length u := by omega
      have hF := HE.out
      have HG1 := hid (HND.out (kid (bitAt bs) bs.length u (kids (bitAt bs) bs.length u)) _ hBi)
      rw [hF] at HG1
      rw [HA.out] at hJi
      clear hF
      gi_wp2
      refine ⟨trivial, fun _ => by omega, ?_⟩
      refine (callsIn_wide.2 (HG1.out)).mono ?_
      rintro e w' ⟨rfl, rfl⟩
      gi_wp2
      refine ⟨fun _ h => (by cases h), ?_⟩
      gi_wp2
      go_end0
      exact ⟨⟨_, rfl⟩, .inl ⟨_, rfl, hJi⟩⟩
end Go.Proofs.YtlpnbkfcbamnbaaDoor
