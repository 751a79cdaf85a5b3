/- Proof text. -/
import Derived.Test.YtgpbpgpolpakjaaGreatDoorScanQ
import Derived.Test.YtgpbpgpolpakjaaGreatDoorAutoP
import Derived.Laws.BytesArg
set_option maxHeartbeats 4000000
set_option linter.unusedVariables false
set_option linter.unusedSimpArgs false
set_option maxRecDepth 100000
namespace Go.Proofs.YtgpbpgpolpakjaaGreatDoor
open Go.RowKit Go.Shelf L
def RC (a : Nat) (ok : Bool) (deep : Nat) : Array Value := #[.int .i64 (a : Nat), .bool ok, .int .i64 (deep : Nat)]
def RR (a : Nat) (ok : Bool) (deep : Nat) : Value := .agg (RC a ok deep)
theorem Tryz.sizeR : (Tryz.prog.info? 154).map (·.size) = some 3 := by kernel_rfl
theorem zt {F : Func} {p : Tmp} {Q : Ending → World → Prop} {a : Act} {w : World} {g : Nat} {x : Nat} {ok : Bool} {d : Nat} (hf : F.results = #[.cell p 154]) (hb : a.defers = []) (hp : a.tmps.getD p undef = .pointer (some ⟨g, 0, none⟩)) (hg : za w g 154 (RC x ok d)) (h : Q (.returned (RR x ok d)) w) :
  bodyPost Tryz.prog F Q Exit.ret a w :=
 bodyPost_ret (results_cell_row hf _ _ g 154 (RC x ok d) (0, 0) _ hp hg Tryz.underlying154 rfl Tryz.sizeR) hb h
theorem zav (a : Nat) (w : World) :
  Calls Tryz.prog 177 #[.int .i64 (a : Nat)] w fun e w' => e = .returned (RR a false 0) ∧ Below w.heap.size w w' := by
 go_enter Tryz.func177, Tryz.ntmps177
 go_wp2_with fail
 exact zt rfl rfl rfl (za.new w _ _) ⟨rfl, (Below.refl _ _).alloc (Nat.le_refl _) _⟩
theorem zdz (s : ByteArray) (k : Nat) (w : World) (hk : k ≤ s.size) (hs : s.size ≤ 65536) :
  Calls Tryz.prog 146 #[.string s, .int .i64 (k : Nat)] w fun e w' => ∃ k' : Nat, e = .returned (.int .i64 (k' : Nat)) ∧ w = w' ∧ Blk (nb s) k k' := by
 have hll := zf s
 go_enter Tryz.func146, Tryz.ntmps146
 go_wp2_with fail
 go_loop [1] (fun i => ∃ k' : Nat, i = .int .i64 (k' : Nat) ∧ k ≤ k' ∧ k' ≤ s.size ∧ (∀ i, k ≤ i → i < k' → L.blank (at_ (nb s) i) = true)) (fun i => s.size - (intOf i).toNat)
 case atStart => exact ⟨k, rfl, Nat.le_refl _, hk, fun i h1 h2 => by omega⟩
 case round =>
  obtain ⟨k', rfl, hk1, hk2, hbl⟩ := hrel
  have HL := hid hbl
  clear hbl
  rcases Nat.lt_or_ge k' s.size with h | h
  ·have HA := hid (zaz s k' h)
   have hi : (k' : Int) < (s.size : Int) := by omega
   have hi2 : decide ((k' : Int) < (s.size : Int)) = true := decide_eq_true hi
   have x1 := zg k' (by omega)
   cases hbk : L.blank (s[k']).toNat
   ·have hn := (zpp _).1 hbk
    have n1 : (((s[k']).toNat : Int) == 32) = false := by rw [beq_eq_false_iff_ne]; omega
    have n2 : (((s[k']).toNat : Int) == 9) = false := by rw [beq_eq_false_iff_ne]; omega
    have n3 : (((s[k']).toNat : Int) == 10) = false := by rw [beq_eq_false_iff_ne]; omega
    have n4 : (((s[k']).toNat : Int) == 13) = false := by rw [beq_eq_false_iff_ne]; omega
    have HK := hid hbk
    clear hbk hn
    go_wp2_with fail
    go_ret
    exact ⟨k', rfl, rfl, hk1, by rw [hll]; exact hk2, HL.out, fun _ => by rw [HA.out]; exact HK.out⟩
   ·have hn := (zpo _).1 hbk
    have HK := hid hbk
    have hrel' : ∀ i, k ≤ i → i < k' + 1 → L.blank (at_ (nb s) i) = true := fun i h1 h2 => by
     rcases Nat.lt_or_ge i k' with h3 | h3
     ·exact HL.out i h1 h3
     ·obtain rfl : i = k' := by omega
      rw [HA.out]; exact HK.out
    have HR := hid hrel'
    clear hbk hrel'
    rcases hn with e | e | e | e
    ·have eI : ((s[k']).toNat : Int) = 32 := by omega
     go_wp2_with fail
     go_round
     case rel => exact ⟨k' + 1, by go_num, by omega, by omega, HR.out⟩
     case measure => simp [intOf]; omega
    ·have eI : ((s[k']).toNat : Int) = 9 := by omega
     go_wp2_with fail
     go_round
     case rel => exact ⟨k' + 1, by go_num, by omega, by omega, HR.out⟩
     case measure => simp [intOf]; omega
    ·have eI : ((s[k']).toNat : Int) = 10 := by omega
     go_wp2_with fail
     go_round
     case rel => exact ⟨k' + 1, by go_num, by omega, by omega, HR.out⟩
     case measure => simp [intOf]; omega
    ·have eI : ((s[k']).toNat : Int) = 13 := by omega
     go_wp2_with fail
     go_round
     case rel => exact ⟨k' + 1, by go_num, by omega, by omega, HR.out⟩
     case measure => simp [intOf]; omega
  ·have hi : decide ((k' : Int) < (s.size : Int)) = false := decide_eq_false (by omega)
   have hiN : ¬ (k' < s.size) := by omega
   go_wp2_with fail
   go_ret
   exact ⟨k', rfl, rfl, hk1, by rw [hll]; exact hk2, HL.out, fun h3 => by rw [hll] at h3; omega⟩
theorem z3b (b : Nat) (w : World) (hb : b < 256) :
  Calls Tryz.prog 214 #[.int .u8 (b : Nat)] w fun e w' => e = .returned (.bool (hexd b)) ∧ w = w' := by
 have h6 : ∃ b1 b2 b3 b4 b5 b6 : Bool, (decide ((b : Int) ≥ 48) = b1 ∧ decide ((b : Int) ≤ 57) = b2 ∧ decide ((b : Int) ≥ 97) = b3 ∧ decide ((b : Int) ≤ 102) = b4 ∧ decide ((b : Int) ≥ 65) = b5 ∧ decide ((b : Int) ≤ 70) = b6) ∧
   [(false, true, false, true, false, true), (true, true, false, true, false, true), (true, false, false, true, false, true), (true, false, false, true, true, true), (true, false, false, true, true, false), (true, false, true, true, true, false), (true, false, true, false, true, false)].contains (b1, b2, b3, b4, b5, b6) = true ∧
   hexd b = ((b1 && b2) || (b3 && b4) || (b5 && b6)) := by
  refine ⟨_, _, _, _, _, _, ⟨rfl, rfl, rfl, rfl, rfl, rfl⟩, ?_, ?_⟩
  ·simp only [List.contains_eq_mem, List.mem_cons, Prod.mk.injEq, decide_eq_true_eq, decide_eq_false_iff_not, List.not_mem_nil, or_false]
   omega
  ·unfold hexd
   congr 1
   ·congr 1
    ·congr 1 <;> (apply Bool.eq_iff_iff.2; simp only [decide_eq_true_eq]; omega)
    ·congr 1 <;> (apply Bool.eq_iff_iff.2; simp only [decide_eq_true_eq]; omega)
   ·congr 1 <;> (apply Bool.eq_iff_iff.2; simp only [decide_eq_true_eq]; omega)
 obtain ⟨b1, b2, b3, b4, b5, b6, ⟨h1, h2, h3, h4, h5, h6⟩, hm, hR⟩ := h6
 rw [hR]
 clear hR
 simp only [List.contains_eq_mem, List.mem_cons, Prod.mk.injEq, decide_eq_true_eq, List.not_mem_nil, or_false] at hm
 rcases hm with ⟨rfl, rfl, rfl, rfl, rfl, rfl⟩ | ⟨rfl, rfl, rfl, rfl, rfl, rfl⟩ | ⟨rfl, rfl, rfl, rfl, rfl, rfl⟩ | ⟨rfl, rfl, rfl, rfl, rfl, rfl⟩ | ⟨rfl, rfl, rfl, rfl, rfl, rfl⟩ | ⟨rfl, rfl, rfl, rfl, rfl, rfl⟩ | ⟨rfl, rfl, rfl, rfl, rfl, rfl⟩
 all_goals
  go_enter Tryz.func214, Tryz.ntmps214
  go_wp2
  go_ret
  exact ⟨rfl, rfl⟩
theorem zb2 (s : ByteArray) (k : Nat) (w : World) (hk : k ≤ s.size) (hs : s.size ≤ 65536) :
  Calls Tryz.prog 206 #[.string s, .int .i64 (k : Nat)] w fun e w' => ∃ n : Nat, e = .returned (.int .i64 (n : Nat)) ∧ w = w' ∧ Dg (nb s) k (k + n) := by
 have hll := zf s
 go_enter Tryz.func206, Tryz.ntmps206
 go_wp2_with fail
 go_loop [5] (fun i => ∃ n : Nat, i = .int .i64 (n : Nat) ∧ k + n ≤ s.size ∧ (∀ i, k ≤ i → i < k + n → L.digit (at_ (nb s) i) = true)) (fun i => s.size - (intOf i).toNat)
 case atStart => exact ⟨0, rfl, hk, fun i h1 h2 => by omega⟩
 case round =>
  obtain ⟨n, rfl, hk2, hbl⟩ := hrel
  have HL := hid hbl
  clear hbl
  obtain ⟨p, hp⟩ : ∃ p, p = k + n := ⟨_, rfl⟩
  have hpI : (k : Int) + (n : Int) = (p : Int) := by omega
  have hpW : IntKind.i64.wrap (p : Int) = (p : Int) := by rw [IntKind.wrap_i64]; omega
  have hnW := zg n (by omega)
  have HP := hid hp
  have hps : p ≤ s.size := by omega
  clear hp
  rcases Nat.lt_or_ge p s.size with h | h
  ·have HA := hid (zaz s p h)
   have hi : (p : Int) < (s.size : Int) := by omega
   have hi2 : decide ((p : Int) < (s.size : Int)) = true := decide_eq_true hi
   rcases Nat.lt_or_ge (s[p]).toNat 48 with g1 | g1
   ·have d1 : decide (((s[p]).toNat : Int) ≥ 48) = false := decide_eq_false (by omega)
    have d1N : ¬ (48 ≤ (s[p]).toNat) := by omega
    have HD := hid ((zjz _).2 (Or.inl g1))
    clear g1
    go_wp2_with fail
    go_ret
    exact ⟨n, rfl, rfl, by omega, by rw [hll]; exact hk2, HL.out, by rw [← HP.out, HA.out]; exact HD.out⟩
   ·have d1 : decide (((s[p]).toNat : Int) ≥ 48) = true := decide_eq_true (by omega)
    rcases Nat.lt_or_ge 57 (s[p]).toNat with g2 | g2
    ·have d2 : decide (((s[p]).toNat : Int) ≤ 57) = false := decide_eq_false (by omega)
     have d2N : ¬ ((s[p]).toNat ≤ 57) := by omega
     have HD := hid ((zjz _).2 (Or.inr g2))
     clear g2
     go_wp2_with fail
     go_ret
     exact ⟨n, rfl, rfl, by omega, by rw [hll]; exact hk2, HL.out, by rw [← HP.out, HA.out]; exact HD.out⟩
    ·have d2 : decide (((s[p]).toNat : Int) ≤ 57) = true := decide_eq_true (by omega)
     have HD := hid ((zf7 _).2 ⟨g1, g2⟩)
     have HN := hid (show k + (n + 1) ≤ s.size by have := HP.out; omega)
     go_wp2_with fail
     go_round
     case rel => exact ⟨n + 1, by go_num, HN.out, fun i h1 h2 => by
      rcases Nat.lt_or_ge i (k + n) with h3 | h3
      ·exact HL.out i h1 h3
      ·obtain rfl : i = p := by have := HP.out; omega
       rw [HA.out]; exact HD.out⟩
     case measure => simp [intOf]; have := HN.out; omega
  ·have hi : decide ((p : Int) < (s.size : Int)) = false := decide_eq_false (by omega)
   have hiN : ¬ (p < s.size) := by omega
   go_wp2_with fail
   go_ret
   exact ⟨n, rfl, rfl, by omega, by rw [hll]; exact hk2, HL.out, by rw [← HP.out, zcw (by rw [hll]; omega)]; rfl⟩
theorem zm {w : World} {g : Nat} {t : TypeId} {a b c : Value} (h : za w g t #[a, b, c]) : w.cell? ⟨g, 0, none⟩ = some a ∧ w.cell? ⟨g, 1, none⟩ = some b ∧ w.cell? ⟨g, 2, none⟩ = some c ∧ w.frozen? ⟨g, 0, none⟩ = false ∧ w.frozen? ⟨g, 1, none⟩ = false ∧ w.frozen? ⟨g, 2, none⟩ = false :=
 ⟨h.cell 0, h.cell 1, h.cell 2, h.frozen 0, h.frozen 1, h.frozen 2⟩
theorem zx {w : World} {g : Nat} {t : TypeId} {a b c : Value} (h : za w g t #[a, b, c]) (a' b' c' : Value) : za (((w.setCell ⟨g, 0, none⟩ a').setCell ⟨g, 1, none⟩ b').setCell ⟨g, 2, none⟩ c') g t #[a', b', c'] := ((h.put 0 a').put 1 b').put 2 c'
theorem zn {B : Nat} {w w' : World} {g : Nat} (h : Below B w w') (hg : B ≤ g) (a' b' c' : Value) : Below B w (((w'.setCell ⟨g, 0, none⟩ a').setCell ⟨g, 1, none⟩ b').setCell ⟨g, 2, none⟩ c') := ((h.setCell (p := ⟨g, 0, none⟩) hg a').setCell (p := ⟨g, 1, none⟩) hg b').setCell (p := ⟨g, 2, none⟩) hg c'
theorem zgv (u : ByteArray) (s : ByteArray) (k : Nat) (w : World) (hk : k ≤ s.size) (hs : s.size ≤ 65536) (hu : ∀ i, i < u.size → at_ (nb u) i ≠ 0) (hu2 : u.size ≤ 65536) :
  Calls Tryz.prog 178 #[.string s, .int .i64 (k : Nat), .string u] w fun e w' => ∃ (k' : Nat) (ok : Bool), e = .returned (RR k' ok 0) ∧ Below w.heap.size w w' ∧ k' ≤ s.size ∧ Tk (nb s) (nb u) k k' ok := by
 have hll := zf s
 have hul := zf u
 have hB0 := (Below.refl w.heap.size w).alloc (Nat.le_refl _) (.cells #[.int .i64 0, .bool false, .int .i64 0] 154)
 have hb0 : za (w.alloc (.cells #[.int .i64 0, .bool false, .int .i64 0] 154)) w.heap.size 154 (RC 0 false 0) := za.new w _ _
 have hsz : w.heap.size ≤ (w.alloc (.cells #[.int .i64 0, .bool false, .int .i64 0] 154)).heap.size := hB0.size
 have hg1 := hb0.lt
 go_enter Tryz.func178, Tryz.ntmps178
 go_wp2_with fail
 generalize hW0 : w.alloc (.cells #[.int .i64 0, .bool false, .int .i64 0] 154) = W0 at *
 clear hW0
 go_loopw [7] (fun i wr => ∃ j m : Nat, i = .int .i64 (j : Nat) ∧ j ≤ u.size ∧ wr = W0.drewN m ∧ k + j ≤ s.size ∧ (∀ i, i < j → at_ (nb s) (k + i) = at_ (nb u) i)) (fun i _ => u.size - (intOf i).toNat)
 case atStart => exact ⟨0, 0, rfl, by omega, rfl, by omega, fun i h => by omega⟩
 case round =>
  obtain ⟨j, m, rfl, hj, rfl, hk2, hbl⟩ := hrel
  have HL := hid hbl
  clear hbl
  rcases Nat.lt_or_ge j u.size with hlt | hge
  ·have HU := hid (zaz u j hlt)
   have HNZ := hid (hu j hlt)
   have hi : (j : Int) < (u.size : Int) := by omega
   have xj := zg j (by omega)
   obtain ⟨p, hp⟩ : ∃ p, p = k + j := ⟨_, rfl⟩
   have hpI : (k : Int) + (j : Int) = (p : Int) := by omega
   have hpW : IntKind.i64.wrap (p : Int) = (p : Int) := by rw [IntKind.wrap_i64]; omega
   have HP := hid hp
   have hps : p ≤ s.size := by omega
   clear hp
   rcases Nat.lt_or_ge p s.size with h | h
   ·have HA := hid (zaz s p h)
    have hps2 : (p : Int) < (s.size : Int) := by omega
    have hge : decide ((p : Int) ≥ (s.size : Int)) = false := decide_eq_false (by omega)
    have hgeN : ¬ (s.size ≤ p) := by omega
    by_cases hc : (s[p]).toNat = (u[j]).toNat
    ·have hcI : ((s[p]).toNat : Int) = ((u[j]).toNat : Int) := by rw [hc]
     have HC := hid hc
     clear hc
     go_wp2_with fail
     go_quiet (fail)
     go_wp2_with fail
     go_roundw
     case rel => exact ⟨j + 1, _, rfl, by omega, rfl, by have := HP.out; omega, fun i h1 => by
      rcases Nat.lt_or_ge i j with h3 | h3
      ·exact HL.out i h3
      ·obtain rfl : i = j := by omega
       rw [← HP.out, HA.out, HC.out, HU.out]⟩
     case measure => simp [intOf]; omega
    ·have hcN : (((s[p]).toNat : Int) != ((u[j]).toNat : Int)) = true := by rw [bne_iff_ne]; omega
     have HC := hid hc
     clear hc
     go_wp2_with fail
     go_quiet (fail)
     go_wp2_with fail
     refine (zav p _).mono ?_
     rintro e w2 ⟨rfl, hB2⟩
     unfold RR RC
     have hb2 : za w2 w.heap.size 154 (RC 0 false 0) := za.below (w := W0.drewN _) hb0 hB2
     obtain ⟨c0, c1, c2, f0, f1, f2⟩ := zm hb2
     go_wp2_with fail
     refine zt rfl rfl rfl (zx hb2 _ _ _) ?_
     exact ⟨p, false, rfl, zn (hB0.trans ((below_drewN (Below.refl _ _) _).trans (hB2.mono hsz))) (Nat.le_refl _) _ _ _, hps, Or.inr ⟨rfl, j, by rw [hul]; exact hlt, HP.out, HL.out, by rw [HA.out, HU.out]; exact HC.out⟩⟩
   ·have hge : decide ((p : Int) ≥ (s.size : Int)) = true := decide_eq_true (by omega)
    have HA := hid (zcw (l := nb s) (i := p) (by rw [hll]; exact h))
    go_wp2_with fail
    go_quiet (fail)
    go_wp2_with fail
    refine (zav p _).mono ?_
    rintro e w2 ⟨rfl, hB2⟩
    unfold RR RC
    have hb2 : za w2 w.heap.size 154 (RC 0 false 0) := za.below (w := W0.drewN _) hb0 hB2
    obtain ⟨c0, c1, c2, f0, f1, f2⟩ := zm hb2
    go_wp2_with fail
    refine zt rfl rfl rfl (zx hb2 _ _ _) ?_
    exact ⟨p, false, rfl, zn (hB0.trans ((below_drewN (Below.refl _ _) _).trans (hB2.mono hsz))) (Nat.le_refl _) _ _ _, hps, Or.inr ⟨rfl, j, by rw [hul]; exact hlt, HP.out, HL.out, by rw [HA.out]; exact HNZ.out.symm⟩⟩
  ·obtain rfl : j = u.size := by omega
   obtain ⟨p, hp⟩ : ∃ p, p = k + u.size := ⟨_, rfl⟩
   have hpI : (k : Int) + (u.size : Int) = (p : Int) := by omega
   have hpW : IntKind.i64.wrap (p : Int) = (p : Int) := by rw [IntKind.wrap_i64]; omega
   have HP := hid hp
   have hps : p ≤ s.size := by omega
   clear hp
   have hb2 : za (W0.drewN m) w.heap.size 154 (RC 0 false 0) := hb0
   obtain ⟨c0, c1, c2, f0, f1, f2⟩ := zm hb2
   go_wp2_with fail
   refine zt rfl rfl rfl (zx hb2 _ _ _) ?_
   exact ⟨p, true, rfl, zn (hB0.trans (below_drewN (Below.refl _ _) _)) (Nat.le_refl _) _ _ _, hps, Or.inl ⟨rfl, by rw [hul]; exact HP.out, by rw [hul]; exact HL.out⟩⟩
def signs : ByteArray := { data := #[34, 92, 47, 98, 102, 110, 114, 116] }
theorem z0k : ∀ j, j < 8 → escb (at_ (nb signs) j) = true ∧ at_ (nb signs) j ≠ 117 := by
 have : ∀ j : Fin 8, escb (at_ (nb signs) j.1) = true ∧ at_ (nb signs) j.1 ≠ 117 := by decide
 exact fun j hj => this ⟨j, hj⟩
theorem z0l {c : Nat} (h : ∀ i, i < 8 → at_ (nb signs) i ≠ c) (h2 : c ≠ 117) : escb c = false := by
 have h0 : (34 : Nat) ≠ c := h 0 (by omega)
 have h1 : (92 : Nat) ≠ c := h 1 (by omega)
 have h3 : (47 : Nat) ≠ c := h 2 (by omega)
 have h4 : (98 : Nat) ≠ c := h 3 (by omega)
 have h5 : (102 : Nat) ≠ c := h 4 (by omega)
 have h6 : (110 : Nat) ≠ c := h 5 (by omega)
 have h7 : (114 : Nat) ≠ c := h 6 (by omega)
 have h8 : (116 : Nat) ≠ c := h 7 (by omega)
 unfold escb
 simp only [Bool.or_eq_false_iff, beq_eq_false_iff_ne, ne_eq]
 omega
theorem zvj (s : ByteArray) (k : Nat) (w : World) (hk : k ≤ s.size) (hs : s.size ≤ 65536) :
  Calls Tryz.prog 202 #[.string s, .int .i64 (k : Nat)] w fun e w' => ∃ (k' : Nat) (ok : Bool), e = .returned (RR k' ok 0) ∧ Below w.heap.size w w' ∧ k' ≤ s.size ∧ Esc (nb s) k ok k' := by
 have hll := zf s
 have hkl : k ≤ (nb s).length := by rw [hll]; exact hk
 have hB0 := (Below.refl w.heap.size w).alloc (Nat.le_refl _) (.cells #[.int .i64 0, .bool false, .int .i64 0] 154)
 have hb0 : za (w.alloc (.cells #[.int .i64 0, .bool false, .int .i64 0] 154)) w.heap.size 154 (RC 0 false 0) := za.new w _ _
 have hsz : w.heap.size ≤ (w.alloc (.cells #[.int .i64 0, .bool false, .int .i64 0] 154)).heap.size := hB0.size
 have x1 := zg k (by omega)
 go_enter Tryz.func202, Tryz.ntmps202
 go_wp2_with fail
 generalize hW0 : w.alloc (.cells #[.int .i64 0, .bool false, .int .i64 0] 154) = W0 at *
 clear hW0
 go_loopw [6] (fun i wr => ∃ j m : Nat, i = .int .i64 (j : Nat) ∧ j ≤ 8 ∧ wr = W0.drewN m ∧ (∀ i, i < j → at_ (nb signs) i ≠ at_ (nb s) k)) (fun i _ => 8 - (intOf i).toNat)
 case atStart => exact ⟨0, 0, rfl, by omega, rfl, fun i h => by omega⟩
 case round =>
  obtain ⟨j, m, rfl, hj, rfl, hno⟩ := hrel
  have HN := hid hno
  clear hno
  have hb1 : za (W0.drewN m) w.heap.size 154 (RC 0 false 0) := hb0
  rcases Nat.lt_or_ge k s.size with h | h
  ·have HA := hid (zaz s k h)
   have hki : (k : Int) < (s.size : Int) := by omega
   have hki2 : decide ((k : Int) < (s.size : Int)) = true := decide_eq_true hki
   have hlt := UInt8.toNat_lt s[k]
   rcases Nat.lt_or_ge j 8 with hlt8 | hge8
   ·have hji : (j : Int) < 8 := by omega
    have hji2 : decide ((j : Int) < 8) = true := decide_eq_true hji
    have hjW := zg j (by omega)
    have hjs : j < signs.size := hlt8
    have HJ := hid (zaz signs j hjs)
    have HSE := hid (z0k j hlt8)
    unfold signs at HJ HSE HN hjs
    by_cases hc : (s[k]).toNat = (ByteArray.mk #[34, 92, 47, 98, 102, 110, 114, 116])[j].toNat
    ·have hcI : ((s[k]).toNat : Int) = ((ByteArray.mk #[34, 92, 47, 98, 102, 110, 114, 116])[j].toNat : Int) := by rw [hc]
     have HC := hid hc
     clear hc
     obtain ⟨c0, c1, c2, f0, f1, f2⟩ := zm hb1
     obtain ⟨d0, d1, d2, g0, g1, g2⟩ := zm hb0
     have HE := hid (show at_ (nb s) k = at_ (nb (ByteArray.mk #[34, 92, 47, 98, 102, 110, 114, 116])) j from by rw [HA.out, HC.out, HJ.out])
     go_wp2_with fail
     go_quiet (fail)
     go_wp2_with fail
     refine zt rfl rfl rfl (zx (w := W0.drewN _) hb0 _ _ _) ?_
     exact ⟨k + 1, true, rfl, zn (hB0.trans (below_drewN (Below.refl _ _) _)) (Nat.le_refl _) _ _ _, h, zwg (by rw [HE.out]; exact HSE.out.1) (by rw [HE.out]; exact HSE.out.2)⟩
    ·have hcN : (((s[k]).toNat : Int) == ((ByteArray.mk #[34, 92, 47, 98, 102, 110, 114, 116])[j].toNat : Int)) = false := by rw [beq_eq_false_iff_ne]; omega
     have HC := hid hc
     clear hc
     go_wp2_with fail
     go_quiet (fail)
     go_wp2_with fail
     go_roundw
     case rel => exact ⟨j + 1, _, rfl, by omega, rfl, fun i h1 => by
      rcases Nat.lt_or_ge i j with h3 | h3
      ·exact HN.out i h3
      ·obtain rfl : i = j := by omega
       intro e
       have e2 := HJ.out
       unfold signs at e
       rw [e, HA.out] at e2
       exact HC.out e2⟩
     case measure => simp [intOf]; omega
   ·have HN8 := hid (show ∀ i, i < 8 → at_ (nb signs) i ≠ at_ (nb s) k from fun i hi => HN.out i (by omega))
    have hji : decide ((j : Int) < 8) = false := decide_eq_false (by omega)
    have hjN : ¬ (j < 8) := by omega
    have hjN2 : ¬ ((j : Int) < 8) := by omega
    by_cases hu : (s[k]).toNat = 117
    ·have huI : ((s[k]).toNat : Int) = 117 := by omega
     have hge : decide ((k : Int) ≥ (s.size : Int)) = false := decide_eq_false (by omega)
     have hgeN : ¬ (s.size ≤ k) := by omega
     have HU := hid hu
     clear hu
     go_wp2_with fail
     clear huI hge hgeN hji hjN hjN2
     go_loopw [7] (fun i wr => ∃ j : Nat, i = .int .i64 (j : Nat) ∧ 1 ≤ j ∧ j ≤ 5 ∧ wr = W0.drewN m ∧ k + j ≤ s.size ∧ ∀ q kk, R (nb s) (toS q 7 kk 0) k (hst q kk (j - 1)) (k + j)) (fun i _ => 5 - (intOf i).toNat)
     case atStart => exact ⟨1, rfl, by omega, by omega, rfl, h, fun q kk => z4u (by rw [HA.out]; exact HU.out) q kk⟩
     case round =>
      obtain ⟨j, rfl, hj1, hj, rfl, hk', hr⟩ := hrel
      have HR := hid hr
      clear hr
      rcases Nat.lt_or_ge j 5 with hlt5' | hge4
      ·have hji : (j : Int) ≤ 4 := by omega
       have hlt4 : j - 1 < 4 := by omega
       have hjW := zg j (by omega)
       obtain ⟨p, hp⟩ : ∃ p, p = k + j := ⟨_, rfl⟩
       have hpI : (k : Int) + (j : Int) = (p : Int) := by omega
       have hpW : IntKind.i64.wrap (p : Int) = (p : Int) := by rw [IntKind.wrap_i64]; omega
       have HP := hid hp
       have hps : p ≤ s.size := by omega
       clear hp
       rcases Nat.lt_or_ge p s.size with h5 | h5
       ·have HA5 := hid (zaz s p h5)
        have hps2 : (p : Int) < (s.size : Int) := by omega
        have hg5 : decide ((p : Int) ≥ (s.size : Int)) = false := decide_eq_false (by omega)
        have hg5N : ¬ (s.size ≤ p) := by omega
        have hlt5 := UInt8.toNat_lt s[p]
        have RX := hid (fun W => z3b (s[p]).toNat W hlt5)
        cases hh : hexd (s[p]).toNat
        ·rw [hh] at RX
         have HH := hid hh
         clear hh
         go_wp2_with (go_at_call 214; refine (RX.out _).mono ?_; rintro e w' ⟨rfl, rfl⟩)
         refine (zav p _).mono ?_
         rintro e w2 ⟨rfl, hB2⟩
         unfold RR RC
         have hb2 : za w2 w.heap.size 154 (RC 0 false 0) := za.below (w := W0.drewN _) hb0 hB2
         obtain ⟨c0, c1, c2, f0, f1, f2⟩ := zm hb2
         go_wp2_with fail
         refine zt rfl rfl rfl (zx hb2 _ _ _) ?_
         exact ⟨p, false, rfl, zn (hB0.trans ((below_drewN (Below.refl _ _) _).trans (hB2.mono hsz))) (Nat.le_refl _) _ _ _, hps, fun q kk => Goes.fail _ (by rw [HP.out]; exact HR.out q kk) (zkl hlt4 (by rw [HA5.out]; exact HH.out) (by rw [hll]; exact hps))⟩
        ·rw [hh] at RX
         have HH := hid hh
         clear hh
         go_wp2_with (go_at_call 214; refine (RX.out _).mono ?_; rintro e w' ⟨rfl, rfl⟩)
         go_roundw
         case rel => exact ⟨j + 1, by go_num, by omega, by omega, by first | rfl | trivial, by have := HP.out; omega, fun q kk => by
          have h7 := zwh (HR.out q kk) hlt4 (by rw [← HP.out, HA5.out]; exact HH.out) (by rw [hll, ← HP.out]; exact h5)
          rw [show j - 1 + 1 = j + 1 - 1 from by omega] at h7
          exact h7⟩
         case measure => simp [intOf]; omega
       ·have hg5 : decide ((p : Int) ≥ (s.size : Int)) = true := decide_eq_true (by omega)
        have HA5 := hid (zcw (l := nb s) (i := p) (by rw [hll]; exact h5))
        go_wp2_with (go_at_call 177; refine (zav p _).mono ?_; rintro e w2 ⟨rfl, hB2⟩; unfold RR RC; have hb2 : za w2 w.heap.size 154 (RC 0 false 0) := za.below (w := W0.drewN _) hb0 hB2; obtain ⟨c0, c1, c2, f0, f1, f2⟩ := zm hb2)
        refine zt rfl rfl rfl (zx hb2 _ _ _) ?_
        exact ⟨p, false, rfl, zn (hB0.trans ((below_drewN (Below.refl _ _) _).trans (hB2.mono hsz))) (Nat.le_refl _) _ _ _, hps, fun q kk => Goes.fail _ (by rw [HP.out]; exact HR.out q kk) (zkl hlt4 (by rw [HA5.out]; decide) (by rw [hll]; exact hps))⟩
      ·obtain rfl : j = 5 := by omega
       have hk5 : IntKind.i64.wrap ((k : Int) + 5) = (k : Int) + 5 := by rw [IntKind.wrap_i64]; omega
       obtain ⟨c0, c1, c2, f0, f1, f2⟩ := zm hb1
       obtain ⟨d0, d1, d2, g0, g1, g2⟩ := zm hb0
       have HK5 := hid (show ((k : Int) + 5) = ((k + 5 : Nat) : Int) by omega)
       go_wp2_with fail
       refine zt (x := k + 5) (ok := true) (d := 0) rfl rfl rfl (by rw [HK5.out]; exact zx (w := W0.drewN _) hb0 _ _ _) ?_
       exact ⟨k + 5, true, rfl, zn (hB0.trans (below_drewN (Below.refl _ _) _)) (Nat.le_refl _) _ _ _, hk', fun q kk => Goes.done (HR.out q kk)⟩
    ·have huI : (((s[k]).toNat : Int) != 117) = true := by rw [bne_iff_ne]; omega
     have hge : decide ((k : Int) ≥ (s.size : Int)) = false := decide_eq_false (by omega)
     have hgeN : ¬ (s.size ≤ k) := by omega
     have HU := hid (z0l (c := at_ (nb s) k) HN8.out (by rw [HA.out]; exact hu))
     clear hu
     go_wp2_with fail
     refine (zav k _).mono ?_
     rintro e w2 ⟨rfl, hB2⟩
     unfold RR RC
     have hb2 : za w2 w.heap.size 154 (RC 0 false 0) := za.below (w := W0.drewN _) hb0 hB2
     obtain ⟨c0, c1, c2, f0, f1, f2⟩ := zm hb2
     go_wp2_with fail
     refine zt rfl rfl rfl (zx hb2 _ _ _) ?_
     exact ⟨k, false, rfl, zn (hB0.trans ((below_drewN (Below.refl _ _) _).trans (hB2.mono hsz))) (Nat.le_refl _) _ _ _, hk, zi5 hkl HU.out⟩
  ·have hki : decide ((k : Int) < (s.size : Int)) = false := decide_eq_false (by omega)
   have hkiN : ¬ (k < s.size) := by omega
   have hge : decide ((k : Int) ≥ (s.size : Int)) = true := decide_eq_true (by omega)
   have HA := hid (zcw (l := nb s) (i := k) (by rw [hll]; exact h))
   by_cases hj8 : j < 8
   ·have hji : decide ((j : Int) < 8) = true := decide_eq_true (by omega)
    go_wp2_with (go_at_call 177; refine (zav k _).mono ?_; rintro e w2 ⟨rfl, hB2⟩; unfold RR RC; have hb2 : za w2 w.heap.size 154 (RC 0 false 0) := za.below (w := W0.drewN _) hb0 hB2; obtain ⟨c0, c1, c2, f0, f1, f2⟩ := zm hb2)
    refine zt rfl rfl rfl (zx hb2 _ _ _) ?_
    exact ⟨k, false, rfl, zn (hB0.trans ((below_drewN (Below.refl _ _) _).trans (hB2.mono hsz))) (Nat.le_refl _) _ _ _, hk, zi5 hkl (by rw [HA.out]; decide)⟩
   ·have hji : decide ((j : Int) < 8) = false := decide_eq_false (by omega)
    have hjN : ¬ ((j : Int) < 8) := by omega
    go_wp2_with (go_at_call 177; refine (zav k _).mono ?_; rintro e w2 ⟨rfl, hB2⟩; unfold RR RC; have hb2 : za w2 w.heap.size 154 (RC 0 false 0) := za.below (w := W0.drewN _) hb0 hB2; obtain ⟨c0, c1, c2, f0, f1, f2⟩ := zm hb2)
    refine zt rfl rfl rfl (zx hb2 _ _ _) ?_
    exact ⟨k, false, rfl, zn (hB0.trans ((below_drewN (Below.refl _ _) _).trans (hB2.mono hsz))) (Nat.le_refl _) _ _ _, hk, zi5 hkl (by rw [HA.out]; decide)⟩
def L.putB (c : Nat) : List Nat :=
 if 1114111 < c ∨ (55296 ≤ c ∧ c ≤ 57343) then [] else if c < 128 then [c] else if c < 2048 then [192 + c / 64, 128 + c % 64]
 else if c < 65536 then [224 + c / 4096, 128 + c / 64 % 64, 128 + c % 64] else [240 + c / 262144, 128 + c / 4096 % 64, 128 + c / 64 % 64, 128 + c % 64]
def L.cv (l : List Nat) (c0 : Nat) : Nat → Nat
 | 0 => c0
 | j + 1 => cv l c0 j * 64 + at_ l (j + 1) % 64
def L.kind (b : Nat) : Nat := if b < 128 then 1 else if b < 192 then 0 else if b < 224 then 2 else if b < 240 then 3 else if b < 248 then 4 else 0
def L.base (b : Nat) : Nat := if b < 224 then 192 else if b < 240 then 224 else 240
def L.scN (l : List Nat) : Nat :=
 if l = [] then 0 else if kind (at_ l 0) = 0 ∨ l.length < kind (at_ l 0) then 0 else if kind (at_ l 0) = 1 then 1
 else if putB (cv l (at_ l 0 - base (at_ l 0)) (kind (at_ l 0) - 1)) = l.take (kind (at_ l 0)) then kind (at_ l 0) else 0
theorem L.cv_lt (l : List Nat) (c0 : Nat) : ∀ j, cv l c0 j < (c0 + 1) * 64 ^ j
 | 0 => by simp [cv]
 | j + 1 => by
   have h := cv_lt l c0 j
   have h2 : at_ l (j + 1) % 64 < 64 := Nat.mod_lt _ (by omega)
   show cv l c0 j * 64 + at_ l (j + 1) % 64 < _
   rw [Nat.pow_succ, ← Nat.mul_assoc]
   generalize (c0 + 1) * 64 ^ j = z at *
   omega
theorem L.zmq {l : List Nat} (h : kind (at_ l 0) = 0) : scN l = 0 := by
 unfold scN
 split
 ·rfl
 ·rw [if_pos (Or.inl h)]
theorem L.zgg {l : List Nat} (h : l.length < kind (at_ l 0)) : scN l = 0 := by
 unfold scN
 split
 ·rfl
 ·rw [if_pos (Or.inr h)]
theorem L.zwu {l : List Nat} (h : at_ l 0 < 128) (hl : 0 < l.length) : scN l = 1 := by
 have hk : kind (at_ l 0) = 1 := by unfold kind; rw [if_pos h]
 unfold scN
 rw [if_neg (by intro e; rw [e] at hl; simp at hl), hk, if_neg (by omega), if_pos rfl]
theorem L.zll {l : List Nat} {n c : Nat} (hk : kind (at_ l 0) = n) (h2 : 2 ≤ n) (hl : n ≤ l.length) (hc : cv l (at_ l 0 - base (at_ l 0)) (n - 1) = c) (h : putB c = l.take n) : scN l = n := by
 unfold scN
 rw [if_neg (by intro e; rw [e] at hl; simp at hl; omega), hk, if_neg (by omega), if_neg (by omega), hc, if_pos h]
theorem L.zku {l : List Nat} {n c : Nat} (hk : kind (at_ l 0) = n) (h2 : 2 ≤ n) (hl : n ≤ l.length) (hc : cv l (at_ l 0 - base (at_ l 0)) (n - 1) = c) (h : ¬ putB c = l.take n) : scN l = 0 := by
 unfold scN
 rw [if_neg (by intro e; rw [e] at hl; simp at hl; omega), hk, if_neg (by omega), if_neg (by omega), hc, if_neg h]
namespace L
theorem put2 (b0 b1 : Nat) (h : 192 ≤ b0) (h2 : b0 < 224) : putB ((b0 - 192) * 64 + b1 % 64) = [b0, b1] ↔ (194 ≤ b0 ∧ 128 ≤ b1 ∧ b1 ≤ 191) := by
 unfold putB
 rw [if_neg (by omega)]
 split
 ·constructor
  ·intro e; exact absurd (congrArg List.length e) (by simp)
  ·intro e; omega
 ·rw [if_pos (by omega)]
  simp only [List.cons.injEq, and_true]
  omega
theorem put3 (b0 b1 b2 : Nat) (h : 224 ≤ b0) (h2 : b0 < 240) : putB (((b0 - 224) * 64 + b1 % 64) * 64 + b2 % 64) = [b0, b1, b2] ↔ (128 ≤ b1 ∧ b1 ≤ 191 ∧ 128 ≤ b2 ∧ b2 ≤ 191 ∧ (b0 = 224 → 160 ≤ b1) ∧ (b0 = 237 → b1 ≤ 159)) := by
 unfold putB
 split
 ·constructor
  ·intro e; exact absurd (congrArg List.length e) (by simp)
  ·intro e; omega
 ·split
  ·constructor
   ·intro e; exact absurd (congrArg List.length e) (by simp)
   ·intro e; omega
  ·split
   ·constructor
    ·intro e; exact absurd (congrArg List.length e) (by simp)
    ·intro e; omega
   ·rw [if_pos (by omega)]
    simp only [List.cons.injEq, and_true]
    omega
theorem put4 (b0 b1 b2 b3 : Nat) (h : 240 ≤ b0) (h2 : b0 < 248) : putB ((((b0 - 240) * 64 + b1 % 64) * 64 + b2 % 64) * 64 + b3 % 64) = [b0, b1, b2, b3] ↔ (b0 ≤ 244 ∧ 128 ≤ b1 ∧ b1 ≤ 191 ∧ 128 ≤ b2 ∧ b2 ≤ 191 ∧ 128 ≤ b3 ∧ b3 ≤ 191 ∧ (b0 = 240 → 144 ≤ b1) ∧ (b0 = 244 → b1 ≤ 143)) := by
 unfold putB
 split
 ·constructor
  ·intro e; exact absurd (congrArg List.length e) (by simp)
  ·intro e; omega
 ·split
  ·constructor
   ·intro e; exact absurd (congrArg List.length e) (by simp)
   ·intro e; omega
  ·split
   ·constructor
    ·intro e; exact absurd (congrArg List.length e) (by simp)
    ·intro e; omega
   ·split
    ·constructor
     ·intro e; exact absurd (congrArg List.length e) (by simp)
     ·intro e; omega
    ·simp only [List.cons.injEq, and_true]
     omega
def us (l : List Nat) : Nat → Nat
 | 0 => 0
 | j + 1 => zaf (us l j) (at_ l j)
theorem zik (l : List Nat) : us l 1 = zce (at_ l 0) := rfl
theorem zts (l : List Nat) : us l 2 = zaf (zce (at_ l 0)) (at_ l 1) := rfl
theorem z3c (l : List Nat) : us l 3 = zaf (zaf (zce (at_ l 0)) (at_ l 1)) (at_ l 2) := rfl
theorem z3d {l : List Nat} (h : 2 ≤ l.length) : l.take 2 = [at_ l 0, at_ l 1] := by
 match l, h with
 | a :: b :: r, _ => rfl
theorem zn3 {l : List Nat} (h : 3 ≤ l.length) : l.take 3 = [at_ l 0, at_ l 1, at_ l 2] := by
 match l, h with
 | a :: b :: c :: r, _ => rfl
theorem zqi {l : List Nat} (h : 4 ≤ l.length) : l.take 4 = [at_ l 0, at_ l 1, at_ l 2, at_ l 3] := by
 match l, h with
 | a :: b :: c :: d :: r, _ => rfl
def Dies (l : List Nat) : Prop := ∃ m, m ≤ 3 ∧ m ≤ l.length ∧ (∀ j, 0 < j → j ≤ m → us l j ≠ 0 ∧ us l j ≤ 7) ∧ (m = l.length ∨ us l (m + 1) = 8)
def zf4 (l : List Nat) (n : Nat) : Prop := 0 < n ∧ n ≤ 4 ∧ n ≤ l.length ∧ us l n = 0 ∧ ∀ j, 0 < j → j < n → us l j ≠ 0 ∧ us l j ≤ 7
theorem zil (b : Nat) : zaf 1 b = if b < 128 ∨ 191 < b then 8 else 0 := rfl
theorem zo9 (b : Nat) : zaf 2 b = if b < 128 ∨ 191 < b then 8 else 1 := rfl
theorem z6i (b : Nat) : zaf 3 b = if b < 128 ∨ 191 < b then 8 else 2 := rfl
theorem z6j (b : Nat) : zaf 4 b = if b < 160 ∨ 191 < b then 8 else 1 := rfl
theorem z6k (b : Nat) : zaf 5 b = if b < 128 ∨ 159 < b then 8 else 1 := rfl
theorem z6l (b : Nat) : zaf 6 b = if b < 144 ∨ 191 < b then 8 else 2 := rfl
theorem z6m (b : Nat) : zaf 7 b = if b < 128 ∨ 143 < b then 8 else 2 := rfl
theorem zgh {l : List Nat} (h : us l 1 = 8) : Dies l := ⟨0, by omega, by omega, fun j h1 h2 => by omega, Or.inr h⟩
theorem ze2 {l : List Nat} (hl : 1 ≤ l.length) (h1 : us l 1 ≠ 0 ∧ us l 1 ≤ 7) (h : 1 = l.length ∨ us l 2 = 8) : Dies l := by
 refine ⟨1, by omega, hl, fun j h2 h3 => ?_, h⟩
 obtain rfl : j = 1 := by omega
 exact h1
theorem zi9 {l : List Nat} (hl : 2 ≤ l.length) (h1 : us l 1 ≠ 0 ∧ us l 1 ≤ 7) (h2 : us l 2 ≠ 0 ∧ us l 2 ≤ 7) (h : 2 = l.length ∨ us l 3 = 8) : Dies l := ⟨2, by omega, hl, fun j h3 h4 => by
 have : j = 1 ∨ j = 2 := by omega
 rcases this with rfl | rfl
 ·exact h1
 ·exact h2, h⟩
theorem zn4 {l : List Nat} (hl : 3 ≤ l.length) (h1 : us l 1 ≠ 0 ∧ us l 1 ≤ 7) (h2 : us l 2 ≠ 0 ∧ us l 2 ≤ 7) (h3 : us l 3 ≠ 0 ∧ us l 3 ≤ 7) (h : 3 = l.length ∨ us l 4 = 8) : Dies l := ⟨3, by omega, hl, fun j h4 h5 => by
 have : j = 1 ∨ j = 2 ∨ j = 3 := by omega
 rcases this with rfl | rfl | rfl
 ·exact h1
 ·exact h2
 ·exact h3, h⟩
theorem z6n {b : Nat} (h : 192 ≤ b) (h2 : b < 224) : zce b = if b < 194 then 8 else 1 := by unfold zce; (repeat' split) <;> omega
theorem z6o {b : Nat} (h : 224 ≤ b) (h2 : b < 240) : zce b = if b = 224 then 4 else if b = 237 then 5 else 2 := by unfold zce; (repeat' split) <;> omega
theorem z6p {b : Nat} (h : 240 ≤ b) (h2 : b < 248) : zce b = if b = 240 then 6 else if b ≤ 243 then 3 else if b = 244 then 7 else 8 := by unfold zce; (repeat' split) <;> omega
theorem zwv {b : Nat} (h : 128 ≤ b ∧ b < 192 ∨ 248 ≤ b) : zce b = 8 := by unfold zce; (repeat' split) <;> omega
theorem z6q {l : List Nat} (hl : 0 < l.length) (h : 192 ≤ at_ l 0) (h2 : at_ l 0 < 224) : (scN l = 0 ∧ Dies l) ∨ zf4 l (scN l) := by
 have hk : kind (at_ l 0) = 2 := by unfold kind; rw [if_neg (by omega), if_neg (by omega), if_pos h2]
 have hb : base (at_ l 0) = 192 := by unfold base; rw [if_pos h2]
 have hf := z6n h h2
 have u1 := zik l
 have u2 := zts l
 rcases Nat.lt_or_ge l.length 2 with h3 | h3
 ·refine Or.inl ⟨zgg (by rw [hk]; exact h3), ?_⟩
  by_cases h4 : at_ l 0 < 194
  ·exact zgh (by rw [u1, hf, if_pos h4])
  ·exact ze2 hl (by rw [u1, hf, if_neg h4]; omega) (Or.inl (by omega))
 ·have hc : cv l (at_ l 0 - base (at_ l 0)) (2 - 1) = (at_ l 0 - 192) * 64 + at_ l 1 % 64 := by rw [hb]; rfl
  have hp := put2 (at_ l 0) (at_ l 1) h h2
  rw [← z3d h3] at hp
  by_cases hg : 194 ≤ at_ l 0 ∧ 128 ≤ at_ l 1 ∧ at_ l 1 ≤ 191
  ·have hn := zll hk (Nat.le_refl _) h3 hc (hp.2 hg)
   rw [hn]
   rw [hf, if_neg (by omega)] at u1 u2
   rw [zil, if_neg (by omega)] at u2
   refine Or.inr ⟨by omega, by omega, h3, u2, fun j h5 h6 => ?_⟩
   obtain rfl : j = 1 := by omega
   rw [u1]; omega
  ·have hn := zku hk (Nat.le_refl _) h3 hc (fun e => hg (hp.1 e))
   refine Or.inl ⟨hn, ?_⟩
   by_cases h4 : at_ l 0 < 194
   ·exact zgh (by rw [u1, hf, if_pos h4])
   ·rw [hf, if_neg h4] at u1 u2
    rw [zil, if_pos (by omega)] at u2
    exact ze2 hl (by rw [u1]; omega) (Or.inr u2)
theorem z0m {l : List Nat} (hl : 0 < l.length) (h : 224 ≤ at_ l 0) (h2 : at_ l 0 < 240) : (scN l = 0 ∧ Dies l) ∨ zf4 l (scN l) := by
 have hk : kind (at_ l 0) = 3 := by unfold kind; rw [if_neg (by omega), if_neg (by omega), if_neg (by omega), if_pos h2]
 have hb : base (at_ l 0) = 224 := by unfold base; rw [if_neg (by omega), if_pos h2]
 have hf := z6o h h2
 have u1 := zik l
 have u2 := zts l
 have u3 := z3c l
 rw [hf] at u1 u2 u3
 have hv1 : us l 1 ≠ 0 ∧ us l 1 ≤ 7 := by rw [u1]; split <;> (try split) <;> omega
 have hs2 : us l 2 = if 128 ≤ at_ l 1 ∧ at_ l 1 ≤ 191 ∧ (at_ l 0 = 224 → 160 ≤ at_ l 1) ∧ (at_ l 0 = 237 → at_ l 1 ≤ 159) then 1 else 8 := by
  rw [u2]
  by_cases e1 : at_ l 0 = 224
  ·rw [if_pos e1, z6j]; (repeat' split) <;> omega
  ·rw [if_neg e1]
   by_cases e2 : at_ l 0 = 237
   ·rw [if_pos e2, z6k]; (repeat' split) <;> omega
   ·rw [if_neg e2, zo9]; (repeat' split) <;> omega
 have hs3 : us l 3 = zaf (us l 2) (at_ l 2) := rfl
 by_cases hg : 128 ≤ at_ l 1 ∧ at_ l 1 ≤ 191 ∧ (at_ l 0 = 224 → 160 ≤ at_ l 1) ∧ (at_ l 0 = 237 → at_ l 1 ≤ 159)
 ·rw [if_pos hg] at hs2
  rw [hs2, zil] at hs3
  have hv2 : us l 2 ≠ 0 ∧ us l 2 ≤ 7 := by rw [hs2]; omega
  rcases Nat.lt_or_ge l.length 3 with h3 | h3
  ·refine Or.inl ⟨zgg (by rw [hk]; exact h3), ?_⟩
   rcases Nat.lt_or_ge l.length 2 with h4 | h4
   ·exact ze2 hl hv1 (Or.inl (by omega))
   ·exact zi9 h4 hv1 hv2 (Or.inl (by omega))
  ·have hc : cv l (at_ l 0 - base (at_ l 0)) (3 - 1) = ((at_ l 0 - 224) * 64 + at_ l 1 % 64) * 64 + at_ l 2 % 64 := by rw [hb]; rfl
   have hp := put3 (at_ l 0) (at_ l 1) (at_ l 2) h h2
   rw [← zn3 h3] at hp
   by_cases hg2 : 128 ≤ at_ l 2 ∧ at_ l 2 ≤ 191
   ·have hn := zll hk (by omega) h3 hc (hp.2 (by omega))
    rw [hn]
    rw [if_neg (by omega)] at hs3
    refine Or.inr ⟨by omega, by omega, h3, hs3, fun j h5 h6 => ?_⟩
    have : j = 1 ∨ j = 2 := by omega
    rcases this with rfl | rfl
    ·exact hv1
    ·exact hv2
   ·have hn := zku hk (by omega) h3 hc (fun e => by have := hp.1 e; omega)
    rw [if_pos (by omega)] at hs3
    exact Or.inl ⟨hn, zi9 (by omega) hv1 hv2 (Or.inr hs3)⟩
 ·rw [if_neg hg] at hs2
  refine Or.inl ⟨?_, ze2 hl hv1 (Or.inr hs2)⟩
  rcases Nat.lt_or_ge l.length 3 with h3 | h3
  ·exact zgg (by rw [hk]; exact h3)
  ·have hc : cv l (at_ l 0 - base (at_ l 0)) (3 - 1) = ((at_ l 0 - 224) * 64 + at_ l 1 % 64) * 64 + at_ l 2 % 64 := by rw [hb]; rfl
   have hp := put3 (at_ l 0) (at_ l 1) (at_ l 2) h h2
   rw [← zn3 h3] at hp
   exact zku hk (by omega) h3 hc (fun e => by have := hp.1 e; omega)
theorem z3e {l : List Nat} (hl : 0 < l.length) (h : 240 ≤ at_ l 0) (h2 : at_ l 0 < 248) : (scN l = 0 ∧ Dies l) ∨ zf4 l (scN l) := by
 have hk : kind (at_ l 0) = 4 := by unfold kind; rw [if_neg (by omega), if_neg (by omega), if_neg (by omega), if_neg (by omega), if_pos h2]
 have hb : base (at_ l 0) = 240 := by unfold base; rw [if_neg (by omega), if_neg (by omega)]
 have hf := z6p h h2
 have u1 := zik l
 have u2 := zts l
 rw [hf] at u1 u2
 have hno : ∀ (hn : ¬ (at_ l 0 ≤ 244 ∧ 128 ≤ at_ l 1 ∧ at_ l 1 ≤ 191 ∧ 128 ≤ at_ l 2 ∧ at_ l 2 ≤ 191 ∧ 128 ≤ at_ l 3 ∧ at_ l 3 ≤ 191 ∧ (at_ l 0 = 240 → 144 ≤ at_ l 1) ∧ (at_ l 0 = 244 → at_ l 1 ≤ 143)) ∨ l.length < 4), scN l = 0 := fun hn => by
  rcases Nat.lt_or_ge l.length 4 with h3 | h3
  ·exact zgg (by rw [hk]; exact h3)
  ·have hc : cv l (at_ l 0 - base (at_ l 0)) (4 - 1) = (((at_ l 0 - 240) * 64 + at_ l 1 % 64) * 64 + at_ l 2 % 64) * 64 + at_ l 3 % 64 := by rw [hb]; rfl
   have hp := put4 (at_ l 0) (at_ l 1) (at_ l 2) (at_ l 3) h h2
   rw [← zqi h3] at hp
   refine zku hk (by omega) h3 hc (fun e => ?_)
   rcases hn with hn | hn
   ·exact hn (hp.1 e)
   ·omega
 by_cases h244 : at_ l 0 ≤ 244
 ·have hv1 : us l 1 ≠ 0 ∧ us l 1 ≤ 7 := by
   rw [u1]
   by_cases e1 : at_ l 0 = 240
   ·rw [if_pos e1]; omega
   ·rw [if_neg e1]
    by_cases e2 : at_ l 0 ≤ 243
    ·rw [if_pos e2]; omega
    ·rw [if_neg e2, if_pos (by omega)]; omega
  have hs2 : us l 2 = if 128 ≤ at_ l 1 ∧ at_ l 1 ≤ 191 ∧ (at_ l 0 = 240 → 144 ≤ at_ l 1) ∧ (at_ l 0 = 244 → at_ l 1 ≤ 143) then 2 else 8 := by
   rw [u2]
   by_cases e1 : at_ l 0 = 240
   ·rw [if_pos e1, z6l]; (repeat' split) <;> omega
   ·rw [if_neg e1]
    by_cases e2 : at_ l 0 ≤ 243
    ·rw [if_pos e2, z6i]; (repeat' split) <;> omega
    ·rw [if_neg e2, if_pos (by omega), z6m]; (repeat' split) <;> omega
  have hs3 : us l 3 = zaf (us l 2) (at_ l 2) := rfl
  have hs4 : us l 4 = zaf (us l 3) (at_ l 3) := rfl
  by_cases hg : 128 ≤ at_ l 1 ∧ at_ l 1 ≤ 191 ∧ (at_ l 0 = 240 → 144 ≤ at_ l 1) ∧ (at_ l 0 = 244 → at_ l 1 ≤ 143)
  ·rw [if_pos hg] at hs2
   rw [hs2, zo9] at hs3
   have hv2 : us l 2 ≠ 0 ∧ us l 2 ≤ 7 := by rw [hs2]; omega
   by_cases hg2 : 128 ≤ at_ l 2 ∧ at_ l 2 ≤ 191
   ·rw [if_neg (by omega)] at hs3
    rw [hs3, zil] at hs4
    have hv3 : us l 3 ≠ 0 ∧ us l 3 ≤ 7 := by rw [hs3]; omega
    rcases Nat.lt_or_ge l.length 4 with h3 | h3
    ·refine Or.inl ⟨hno (Or.inr h3), ?_⟩
     rcases Nat.lt_or_ge l.length 2 with h4 | h4
     ·exact ze2 hl hv1 (Or.inl (by omega))
     ·rcases Nat.lt_or_ge l.length 3 with h5 | h5
      ·exact zi9 h4 hv1 hv2 (Or.inl (by omega))
      ·exact zn4 h5 hv1 hv2 hv3 (Or.inl (by omega))
    ·by_cases hg3 : 128 ≤ at_ l 3 ∧ at_ l 3 ≤ 191
     ·have hc : cv l (at_ l 0 - base (at_ l 0)) (4 - 1) = (((at_ l 0 - 240) * 64 + at_ l 1 % 64) * 64 + at_ l 2 % 64) * 64 + at_ l 3 % 64 := by rw [hb]; rfl
      have hp := put4 (at_ l 0) (at_ l 1) (at_ l 2) (at_ l 3) h h2
      rw [← zqi h3] at hp
      have hn := zll hk (by omega) h3 hc (hp.2 (by omega))
      rw [hn]
      rw [if_neg (by omega)] at hs4
      refine Or.inr ⟨by omega, by omega, h3, hs4, fun j h5 h6 => ?_⟩
      have : j = 1 ∨ j = 2 ∨ j = 3 := by omega
      rcases this with rfl | rfl | rfl
      ·exact hv1
      ·exact hv2
      ·exact hv3
     ·rw [if_pos (by omega)] at hs4
      exact Or.inl ⟨hno (Or.inl (by omega)), zn4 (by omega) hv1 hv2 hv3 (Or.inr hs4)⟩
   ·rw [if_pos (by omega)] at hs3
    refine Or.inl ⟨hno (Or.inl (by omega)), ?_⟩
    rcases Nat.lt_or_ge l.length 2 with h4 | h4
    ·exact ze2 hl hv1 (Or.inl (by omega))
    ·exact zi9 h4 hv1 hv2 (Or.inr hs3)
  ·rw [if_neg hg] at hs2
   exact Or.inl ⟨hno (Or.inl (by omega)), ze2 hl hv1 (Or.inr hs2)⟩
 ·rw [if_neg (by omega), if_neg (by omega), if_neg (by omega)] at u1
  exact Or.inl ⟨hno (Or.inl (by omega)), zgh u1⟩
theorem zja {l : List Nat} (hl : 0 < l.length) : (scN l = 0 ∧ Dies l) ∨ zf4 l (scN l) := by
 rcases Nat.lt_or_ge (at_ l 0) 128 with h1 | h1
 ·rw [zwu h1 hl]
  refine Or.inr ⟨by omega, by omega, hl, ?_, fun j h5 h6 => by omega⟩
  rw [zik]; unfold zce; rw [if_pos h1]
 ·rcases Nat.lt_or_ge (at_ l 0) 192 with h2 | h2
  ·refine Or.inl ⟨zmq (by unfold kind; rw [if_neg (by omega), if_pos h2]), zgh ?_⟩
   rw [zik, zwv (Or.inl ⟨h1, h2⟩)]
  ·rcases Nat.lt_or_ge (at_ l 0) 224 with h3 | h3
   ·exact z6q hl h2 h3
   ·rcases Nat.lt_or_ge (at_ l 0) 240 with h4 | h4
    ·exact z0m hl h3 h4
    ·rcases Nat.lt_or_ge (at_ l 0) 248 with h5 | h5
     ·exact z3e hl h4 h5
     ·refine Or.inl ⟨zmq (by unfold kind; rw [if_neg (by omega), if_neg (by omega), if_neg (by omega), if_neg (by omega), if_neg (by omega)]), zgh ?_⟩
      rw [zik, zwv (Or.inr h5)]
end L
open Go.RowKit Go.Shelf L
theorem zlm {w : World} {g n : Nat} {l : List Nat} (hn : l.length = n) (hg : za w g 5 (l.map fun x => Value.int .u8 (x : Nat)).toArray) :
  (convert 117 9 (.slice (some ⟨g, 0, none⟩) n n)).run Tryz.prog w = .ok (.string ⟨(l.map Nat.toUInt8).toArray⟩) w := by
 subst hn
 have := run_convert_bytes_arg w 117 5 Tryz.underlying117 Tryz.underlying5 g 0 l.length l.length (l.map (fun b : Nat => (b : Int))) (by simp) (fun i hi => by
  rw [Nat.zero_add, hg.cell i]
  simp [hi]) 9 Tryz.underlying9
 rw [this]
 congr 2
 apply ByteArray.ext
 apply Array.toList_inj.1
 rw [strOfNums_data, List.map_map]
 simp
theorem zn5 (l : List Nat) (h : ∀ x ∈ l, x < 256) : nb ⟨(l.map Nat.toUInt8).toArray⟩ = l := by
 show (l.map Nat.toUInt8).map UInt8.toNat = l
 rw [List.map_map]
 have : ∀ x ∈ l, (UInt8.toNat ∘ Nat.toUInt8) x = x := fun x hx => by
  show (Nat.toUInt8 x).toNat = x
  have := h x hx
  show x % 256 = x
  omega
 rw [List.map_congr_left this, List.map_id']
theorem z0n (c : Nat) (w : World) (hc : c < 4194304) :
  Calls Tryz.prog 215 #[.int .i64 (c : Nat)] w fun e w' => ∃ S, e = .returned (.string S) ∧ nb S = putB c ∧ Below w.heap.size w w' := by
 have n0 : decide ((c : Int) < 0) = false := decide_eq_false (by omega)
 by_cases h1 : 1114111 < c
 ·have hP : putB c = [] := by unfold putB; rw [if_pos (Or.inl h1)]
  have d1 : decide ((c : Int) > 1114111) = true := decide_eq_true (by omega)
  go_enter Tryz.func215, Tryz.ntmps215
  go_wp2_with fail
  go_ret
  exact ⟨_, rfl, by rw [hP]; rfl, Below.refl _ _⟩
 ·have d1 : decide ((c : Int) > 1114111) = false := decide_eq_false (by omega)
  have d1N : ¬ (1114111 < c) := h1
  by_cases h2 : 55296 ≤ c ∧ c ≤ 57343
  ·have hP : putB c = [] := by unfold putB; rw [if_pos (Or.inr h2)]
   have d2 : decide ((c : Int) ≥ 55296) = true := decide_eq_true (by omega)
   have d3 : decide ((c : Int) ≤ 57343) = true := decide_eq_true (by omega)
   go_enter Tryz.func215, Tryz.ntmps215
   go_wp2_with fail
   go_ret
   exact ⟨_, rfl, by rw [hP]; rfl, Below.refl _ _⟩
  ·have hg : (decide ((c : Int) ≥ 55296) = false) ∨ (decide ((c : Int) ≥ 55296) = true ∧ decide ((c : Int) ≤ 57343) = false) := by
    by_cases h3 : 55296 ≤ c
    ·exact Or.inr ⟨decide_eq_true (by omega), decide_eq_false (by omega)⟩
    ·exact Or.inl (decide_eq_false (by omega))
   have hnot : ¬ (1114111 < c ∨ (55296 ≤ c ∧ c ≤ 57343)) := by omega
   have HNOT := hid hnot
   have HG := hid hg
   clear hnot hg h2
   by_cases h3 : c < 128
   ·have HP := hid (show putB c = [c] by unfold putB; rw [if_neg HNOT.out, if_pos h3])
    have d4 : decide ((c : Int) < 128) = true := decide_eq_true (by omega)
    have d2 : decide ((c : Int) ≥ 55296) = false := decide_eq_false (by omega)
    have d2N : ¬ (55296 ≤ c) := by omega
    have wc : IntKind.u8.wrap (c : Int) = (c : Int) := by rw [IntKind.wrap_u8]; omega
    have hb := za.new w 5 #[.int .u8 (c : Nat)]
    have hcv := zlm (n := 1) (l := [c]) rfl hb
    have hB := (Below.refl w.heap.size w).alloc (Nat.le_refl _) (.cells #[.int .u8 (c : Nat)] 5)
    go_enter Tryz.func215, Tryz.ntmps215
    go_wp2_with fail
    go_ret
    exact ⟨_, rfl, by rw [HP.out]; exact zn5 [c] (by simp; omega), hB⟩
   ·have d4 : decide ((c : Int) < 128) = false := decide_eq_false (by omega)
    have d4N : ¬ (c < 128) := h3
    by_cases h4 : c < 2048
    ·have HP := hid (show putB c = [192 + c / 64, 128 + c % 64] by unfold putB; rw [if_neg HNOT.out, if_neg h3, if_pos h4])
     have d5 : decide ((c : Int) < 2048) = true := decide_eq_true (by omega)
     have d2 : decide ((c : Int) ≥ 55296) = false := decide_eq_false (by omega)
     have d2N : ¬ (55296 ≤ c) := by omega
     obtain ⟨a, ha⟩ : ∃ a, a = 192 + c / 64 := ⟨_, rfl⟩
     obtain ⟨b, hb'⟩ : ∃ b, b = 128 + c % 64 := ⟨_, rfl⟩
     have a1 : 192 + (c : Int) / 64 = (a : Int) := by omega
     have a2 : 128 + (c : Int) % 64 = (b : Int) := by omega
     have wa : IntKind.u8.wrap (a : Int) = (a : Int) := by rw [IntKind.wrap_u8]; omega
     have wb : IntKind.u8.wrap (b : Int) = (b : Int) := by rw [IntKind.wrap_u8]; omega
     have wa2 : IntKind.i64.wrap (a : Int) = (a : Int) := by rw [IntKind.wrap_i64]; omega
     have wb2 : IntKind.i64.wrap (b : Int) = (b : Int) := by rw [IntKind.wrap_i64]; omega
     have wc2 : IntKind.i64.wrap ((c : Int) / 64) = (c : Int) / 64 := by rw [IntKind.wrap_i64]; omega
     have hb := za.new w 5 #[.int .u8 (a : Nat), .int .u8 (b : Nat)]
     have hcv := zlm (n := 2) (l := [a, b]) rfl hb
     have hB := (Below.refl w.heap.size w).alloc (Nat.le_refl _) (.cells #[.int .u8 (a : Nat), .int .u8 (b : Nat)] 5)
     have HN := hid (show nb ⟨([a, b].map Nat.toUInt8).toArray⟩ = putB c by rw [zn5 [a, b] (by simp; omega), HP.out, ha, hb'])
     clear ha hb'
     go_enter Tryz.func215, Tryz.ntmps215
     go_wp2_with fail
     go_ret
     exact ⟨_, rfl, HN.out, hB⟩
    ·have d5 : decide ((c : Int) < 2048) = false := decide_eq_false (by omega)
     have d5N : ¬ (c < 2048) := h4
     by_cases h5 : c < 65536
     ·have HP := hid (show putB c = [224 + c / 4096, 128 + c / 64 % 64, 128 + c % 64] by unfold putB; rw [if_neg HNOT.out, if_neg h3, if_neg h4, if_pos h5])
      have d6 : decide ((c : Int) < 65536) = true := decide_eq_true (by omega)
      obtain ⟨a, ha⟩ : ∃ a, a = 224 + c / 4096 := ⟨_, rfl⟩
      obtain ⟨m, hm⟩ : ∃ m, m = 128 + c / 64 % 64 := ⟨_, rfl⟩
      obtain ⟨b, hb'⟩ : ∃ b, b = 128 + c % 64 := ⟨_, rfl⟩
      have a1 : 224 + (c : Int) / 4096 = (a : Int) := by omega
      have a3 : 128 + (c : Int) / 64 % 64 = (m : Int) := by omega
      have a2 : 128 + (c : Int) % 64 = (b : Int) := by omega
      have wa : IntKind.u8.wrap (a : Int) = (a : Int) := by rw [IntKind.wrap_u8]; omega
      have wm : IntKind.u8.wrap (m : Int) = (m : Int) := by rw [IntKind.wrap_u8]; omega
      have wb : IntKind.u8.wrap (b : Int) = (b : Int) := by rw [IntKind.wrap_u8]; omega
      have wa2 : IntKind.i64.wrap (a : Int) = (a : Int) := by rw [IntKind.wrap_i64]; omega
      have wm2 : IntKind.i64.wrap (m : Int) = (m : Int) := by rw [IntKind.wrap_i64]; omega
      have wb2 : IntKind.i64.wrap (b : Int) = (b : Int) := by rw [IntKind.wrap_i64]; omega
      have wc2 : IntKind.i64.wrap ((c : Int) / 64) = (c : Int) / 64 := by rw [IntKind.wrap_i64]; omega
      have wc3 : IntKind.i64.wrap ((c : Int) / 4096) = (c : Int) / 4096 := by rw [IntKind.wrap_i64]; omega
      have hb := za.new w 5 #[.int .u8 (a : Nat), .int .u8 (m : Nat), .int .u8 (b : Nat)]
      have hcv := zlm (n := 3) (l := [a, m, b]) rfl hb
      have hB := (Below.refl w.heap.size w).alloc (Nat.le_refl _) (.cells #[.int .u8 (a : Nat), .int .u8 (m : Nat), .int .u8 (b : Nat)] 5)
      have HN := hid (show nb ⟨([a, m, b].map Nat.toUInt8).toArray⟩ = putB c by rw [zn5 [a, m, b] (by simp; omega), HP.out, ha, hb', hm])
      clear ha hb' hm
      rcases HG.out with d2 | ⟨d2, d3⟩
      ·go_enter Tryz.func215, Tryz.ntmps215
       go_wp2_with fail
       go_ret
       exact ⟨_, rfl, HN.out, hB⟩
      ·go_enter Tryz.func215, Tryz.ntmps215
       go_wp2_with fail
       go_ret
       exact ⟨_, rfl, HN.out, hB⟩
     ·have HP := hid (show putB c = [240 + c / 262144, 128 + c / 4096 % 64, 128 + c / 64 % 64, 128 + c % 64] by unfold putB; rw [if_neg HNOT.out, if_neg h3, if_neg h4, if_neg h5])
      have d6 : decide ((c : Int) < 65536) = false := decide_eq_false (by omega)
      have d6N : ¬ (c < 65536) := h5
      have d2 : decide ((c : Int) ≥ 55296) = true := decide_eq_true (by omega)
      have d3 : decide ((c : Int) ≤ 57343) = false := decide_eq_false (by omega)
      have d3N : ¬ (c ≤ 57343) := by omega
      obtain ⟨a, ha⟩ : ∃ a, a = 240 + c / 262144 := ⟨_, rfl⟩
      obtain ⟨k, hk⟩ : ∃ k, k = 128 + c / 4096 % 64 := ⟨_, rfl⟩
      obtain ⟨m, hm⟩ : ∃ m, m = 128 + c / 64 % 64 := ⟨_, rfl⟩
      obtain ⟨b, hb'⟩ : ∃ b, b = 128 + c % 64 := ⟨_, rfl⟩
      have a1 : 240 + (c : Int) / 262144 = (a : Int) := by omega
      have a4 : 128 + (c : Int) / 4096 % 64 = (k : Int) := by omega
      have a3 : 128 + (c : Int) / 64 % 64 = (m : Int) := by omega
      have a2 : 128 + (c : Int) % 64 = (b : Int) := by omega
      have wa : IntKind.u8.wrap (a : Int) = (a : Int) := by rw [IntKind.wrap_u8]; omega
      have wk : IntKind.u8.wrap (k : Int) = (k : Int) := by rw [IntKind.wrap_u8]; omega
      have wm : IntKind.u8.wrap (m : Int) = (m : Int) := by rw [IntKind.wrap_u8]; omega
      have wb : IntKind.u8.wrap (b : Int) = (b : Int) := by rw [IntKind.wrap_u8]; omega
      have wa2 : IntKind.i64.wrap (a : Int) = (a : Int) := by rw [IntKind.wrap_i64]; omega
      have wk2 : IntKind.i64.wrap (k : Int) = (k : Int) := by rw [IntKind.wrap_i64]; omega
      have wm2 : IntKind.i64.wrap (m : Int) = (m : Int) := by rw [IntKind.wrap_i64]; omega
      have wb2 : IntKind.i64.wrap (b : Int) = (b : Int) := by rw [IntKind.wrap_i64]; omega
      have wc2 : IntKind.i64.wrap ((c : Int) / 64) = (c : Int) / 64 := by rw [IntKind.wrap_i64]; omega
      have wc3 : IntKind.i64.wrap ((c : Int) / 4096) = (c : Int) / 4096 := by rw [IntKind.wrap_i64]; omega
      have wc4 : IntKind.i64.wrap ((c : Int) / 262144) = (c : Int) / 262144 := by rw [IntKind.wrap_i64]; omega
      have hb := za.new w 5 #[.int .u8 (a : Nat), .int .u8 (k : Nat), .int .u8 (m : Nat), .int .u8 (b : Nat)]
      have hcv := zlm (n := 4) (l := [a, k, m, b]) rfl hb
      have hB := (Below.refl w.heap.size w).alloc (Nat.le_refl _) (.cells #[.int .u8 (a : Nat), .int .u8 (k : Nat), .int .u8 (m : Nat), .int .u8 (b : Nat)] 5)
      have HN := hid (show nb ⟨([a, k, m, b].map Nat.toUInt8).toArray⟩ = putB c by rw [zn5 [a, k, m, b] (by simp; omega), HP.out, ha, hb', hm, hk])
      clear ha hb' hm hk
      go_enter Tryz.func215, Tryz.ntmps215
      go_wp2_with fail
      go_ret
      exact ⟨_, rfl, HN.out, hB⟩
theorem za7 {P : Program} {Q : Exit → Act → World → Prop} {a : Act} {w : World} {x y : Code} (J : Act → World → Prop) (h1 : x.wp P (Exit.then J Q) a w) (h2 : ∀ a w, J a w → y.wp P Q a w) : (Code.seq x y).wp P Q a w :=
 wp_seq (wp_mono h1 (fun e a w he => by cases e <;> first | exact h2 _ _ he | exact he))
def FA (s : ByteArray) (r p : Nat) (f : Nat → Value) : Act := { tmps := #[.string s, .int .i64 (p : Nat), f 2, f 3, .pointer (some ⟨r, 0, none⟩), f 5, f 6, f 7, f 8, f 9, f 10, f 11, f 12, f 13, f 14, f 15, f 16, f 17, f 18, f 19, f 20, f 21, f 22, f 23, f 24, f 25, f 26, f 27, f 28, f 29, f 30, f 31, f 32, f 33, f 34, f 35, f 36, f 37, f 38, f 39, f 40, f 41, f 42, f 43, f 44, f 45, f 46, f 47, f 48, f 49, f 50, f 51, f 52, f 53, f 54, f 55, f 56, f 57, f 58, f 59, f 60, f 61, f 62, f 63, f 64, f 65, f 66, f 67, f 68, f 69, f 70, f 71, f 72, f 73, f 74, f 75, f 76, f 77, f 78, f 79, f 80, f 81, f 82, f 83, f 84, f 85, f 86, f 87, f 88, f 89, f 90, f 91, f 92, f 93, f 94, f 95, f 96, f 97, f 98, f 99, f 100, f 101, f 102], defers := [] }
def FB (s : ByteArray) (r p n : Nat) (f : Nat → Value) : Act := { tmps := #[.string s, .int .i64 (p : Nat), f 2, f 3, .pointer (some ⟨r, 0, none⟩), .int .i64 (n : Nat), f 6, f 7, f 8, f 9, f 10, f 11, f 12, f 13, f 14, f 15, f 16, f 17, f 18, f 19, f 20, f 21, f 22, f 23, f 24, f 25, f 26, f 27, f 28, f 29, f 30, f 31, f 32, f 33, f 34, f 35, f 36, f 37, f 38, f 39, f 40, f 41, f 42, f 43, f 44, f 45, f 46, f 47, f 48, f 49, f 50, f 51, f 52, f 53, f 54, f 55, f 56, f 57, f 58, f 59, f 60, f 61, f 62, f 63, f 64, f 65, f 66, f 67, f 68, f 69, f 70, f 71, f 72, f 73, f 74, f 75, f 76, f 77, f 78, f 79, f 80, f 81, f 82, f 83, f 84, f 85, f 86, f 87, f 88, f 89, f 90, f 91, f 92, f 93, f 94, f 95, f 96, f 97, f 98, f 99, f 100, f 101, f 102], defers := [] }
theorem FA.mk (s : ByteArray) (r p : Nat) (u2 u3 u5 u6 u7 u8 u9 u10 u11 u12 u13 u14 u15 u16 u17 u18 u19 u20 u21 u22 u23 u24 u25 u26 u27 u28 u29 u30 u31 u32 u33 u34 u35 u36 u37 u38 u39 u40 u41 u42 u43 u44 u45 u46 u47 u48 u49 u50 u51 u52 u53 u54 u55 u56 u57 u58 u59 u60 u61 u62 u63 u64 u65 u66 u67 u68 u69 u70 u71 u72 u73 u74 u75 u76 u77 u78 u79 u80 u81 u82 u83 u84 u85 u86 u87 u88 u89 u90 u91 u92 u93 u94 u95 u96 u97 u98 u99 u100 u101 u102 : Value) : ∃ f, ({ tmps := #[.string s, .int .i64 (p : Nat), u2, u3, .pointer (some ⟨r, 0, none⟩), u5, u6, u7, u8, u9, u10, u11, u12, u13, u14, u15, u16, u17, u18, u19, u20, u21, u22, u23, u24, u25, u26, u27, u28, u29, u30, u31, u32, u33, u34, u35, u36, u37, u38, u39, u40, u41, u42, u43, u44, u45, u46, u47, u48, u49, u50, u51, u52, u53, u54, u55, u56, u57, u58, u59, u60, u61, u62, u63, u64, u65, u66, u67, u68, u69, u70, u71, u72, u73, u74, u75, u76, u77, u78, u79, u80, u81, u82, u83, u84, u85, u86, u87, u88, u89, u90, u91, u92, u93, u94, u95, u96, u97, u98, u99, u100, u101, u102], defers := [] } : Act) = FA s r p f := ⟨fun i => ([undef, undef, u2, u3, undef, u5, u6, u7, u8, u9, u10, u11, u12, u13, u14, u15, u16, u17, u18, u19, u20, u21, u22, u23, u24, u25, u26, u27, u28, u29, u30, u31, u32, u33, u34, u35, u36, u37, u38, u39, u40, u41, u42, u43, u44, u45, u46, u47, u48, u49, u50, u51, u52, u53, u54, u55, u56, u57, u58, u59, u60, u61, u62, u63, u64, u65, u66, u67, u68, u69, u70, u71, u72, u73, u74, u75, u76, u77, u78, u79, u80, u81, u82, u83, u84, u85, u86, u87, u88, u89, u90, u91, u92, u93, u94, u95, u96, u97, u98, u99, u100, u101, u102] : List Value)[i]?.getD undef, rfl⟩
theorem FB.mk (s : ByteArray) (r p n : Nat) (u2 u3 u6 u7 u8 u9 u10 u11 u12 u13 u14 u15 u16 u17 u18 u19 u20 u21 u22 u23 u24 u25 u26 u27 u28 u29 u30 u31 u32 u33 u34 u35 u36 u37 u38 u39 u40 u41 u42 u43 u44 u45 u46 u47 u48 u49 u50 u51 u52 u53 u54 u55 u56 u57 u58 u59 u60 u61 u62 u63 u64 u65 u66 u67 u68 u69 u70 u71 u72 u73 u74 u75 u76 u77 u78 u79 u80 u81 u82 u83 u84 u85 u86 u87 u88 u89 u90 u91 u92 u93 u94 u95 u96 u97 u98 u99 u100 u101 u102 : Value) : ∃ f, ({ tmps := #[.string s, .int .i64 (p : Nat), u2, u3, .pointer (some ⟨r, 0, none⟩), .int .i64 (n : Nat), u6, u7, u8, u9, u10, u11, u12, u13, u14, u15, u16, u17, u18, u19, u20, u21, u22, u23, u24, u25, u26, u27, u28, u29, u30, u31, u32, u33, u34, u35, u36, u37, u38, u39, u40, u41, u42, u43, u44, u45, u46, u47, u48, u49, u50, u51, u52, u53, u54, u55, u56, u57, u58, u59, u60, u61, u62, u63, u64, u65, u66, u67, u68, u69, u70, u71, u72, u73, u74, u75, u76, u77, u78, u79, u80, u81, u82, u83, u84, u85, u86, u87, u88, u89, u90, u91, u92, u93, u94, u95, u96, u97, u98, u99, u100, u101, u102], defers := [] } : Act) = FB s r p n f := ⟨fun i => ([undef, undef, u2, u3, undef, undef, u6, u7, u8, u9, u10, u11, u12, u13, u14, u15, u16, u17, u18, u19, u20, u21, u22, u23, u24, u25, u26, u27, u28, u29, u30, u31, u32, u33, u34, u35, u36, u37, u38, u39, u40, u41, u42, u43, u44, u45, u46, u47, u48, u49, u50, u51, u52, u53, u54, u55, u56, u57, u58, u59, u60, u61, u62, u63, u64, u65, u66, u67, u68, u69, u70, u71, u72, u73, u74, u75, u76, u77, u78, u79, u80, u81, u82, u83, u84, u85, u86, u87, u88, u89, u90, u91, u92, u93, u94, u95, u96, u97, u98, u99, u100, u101, u102] : List Value)[i]?.getD undef, rfl⟩
def JA (s : ByteArray) (r : Nat) (W0 : World) (Φ : Nat → Prop) (a : Act) (w : World) : Prop := w = W0 ∧ ∃ p, Φ p ∧ ∃ f, a = FA s r p f
def JB (s : ByteArray) (r : Nat) (W0 : World) (Φ : Nat → Nat → Prop) (a : Act) (w : World) : Prop := w = W0 ∧ ∃ p n, Φ p n ∧ ∃ f, a = FB s r p n f
def Rk (l : List Nat) (k M p : Nat) : Prop := (∀ q, R l (to q 0) k (to q M) p) ∧ p ≤ l.length
def N1 (l : List Nat) (k p : Nat) : Prop := ∃ M, ((M = 0 ∧ at_ l p ≠ 45 ∧ numb (at_ l p)) ∨ M = 10) ∧ Rk l k M p
def N2 (l : List Nat) (k p n : Nat) : Prop := N1 l k p ∧ Dg l p (p + n)
def N3 (l : List Nat) (k p n : Nat) : Prop := N1 l k p ∧ Dg l p (p + n) ∧ 0 < n
def N5 (l : List Nat) (k p : Nat) : Prop := ∃ M, (M = 11 ∨ (M = 12 ∧ L.digit (at_ l p) = false)) ∧ Rk l k M p
def N4 (l : List Nat) (k p n : Nat) : Prop := N5 l k (p + n)
def N6 (l : List Nat) (k p : Nat) : Prop := ∃ M, ((M = 11 ∧ at_ l p ≠ 46) ∨ (M = 12 ∧ L.digit (at_ l p) = false ∧ at_ l p ≠ 46) ∨ (M = 14 ∧ L.digit (at_ l p) = false)) ∧ Rk l k M p
theorem Rk.on {l : List Nat} {k M p M' p' : Nat} (h : Rk l k M p) (g : ∀ q, R l (to q M) p (to q M') p') : Rk l k M' p' := ⟨fun q => (h.1 q).trans (g q), (g L.start).le.2⟩
theorem N1.minus {l : List Nat} {k : Nat} (hk : k ≤ l.length) (h : at_ l k = 45) : N1 l k (k + 1) := ⟨10, Or.inr rfl, fun q => zj0 h, (zj0 (q := L.start) h).le.2⟩
theorem N1.plain {l : List Nat} {k : Nat} (hk : k ≤ l.length) (h : at_ l k ≠ 45) (hn : numb (at_ l k)) : N1 l k k := ⟨0, Or.inl ⟨rfl, h, hn⟩, fun q => R.refl hk, hk⟩
theorem N2.none {l : List Nat} {k p : Nat} (h : N2 l k p 0) : Num l k false p := fun q => by
 obtain ⟨⟨M, hM, hr⟩, hd⟩ := h
 exact Goes.fail _ (hr.1 q) (zmd hM hr.2 (by have := hd.2.2.2; rwa [Nat.add_zero] at this))
theorem N3.zero {l : List Nat} {k p n : Nat} (h : N3 l k p n) (h0 : at_ l p = 48) : N4 l k p 1 := by
 obtain ⟨⟨M, hM, hr⟩, hd, hn⟩ := h
 refine ⟨11, Or.inl rfl, hr.on fun q => zmc ?_ h0⟩
 rcases hM with ⟨e, _⟩ | e
 ·exact Or.inl e
 ·exact Or.inr e
theorem N3.int {l : List Nat} {k p n : Nat} (h : N3 l k p n) (h0 : at_ l p ≠ 48) : N4 l k p n := by
 obtain ⟨⟨M, hM, hr⟩, hd, hn⟩ := h
 refine ⟨12, Or.inr ⟨rfl, hd.2.2.2⟩, hr.on fun q => zom ?_ h0 (by omega) hd.2.1 hd.2.2.1⟩
 rcases hM with ⟨e, _⟩ | e
 ·exact Or.inl e
 ·exact Or.inr e
theorem N5.none {l : List Nat} {k p : Nat} (h : N5 l k p) (h0 : at_ l p ≠ 46) : N6 l k p := by
 obtain ⟨M, hM, hr⟩ := h
 rcases hM with e | ⟨e, hd⟩
 ·exact ⟨M, Or.inl ⟨e, h0⟩, hr⟩
 ·exact ⟨M, Or.inr (Or.inl ⟨e, hd, h0⟩), hr⟩
theorem N5.dot {l : List Nat} {k p : Nat} (h : N5 l k p) (h0 : at_ l p = 46) : Rk l k 13 (p + 1) := by
 obtain ⟨M, hM, hr⟩ := h
 refine hr.on fun q => zh5 ?_ h0
 rcases hM with e | ⟨e, _⟩
 ·exact Or.inl e
 ·exact Or.inr e
theorem z3f {l : List Nat} {k p : Nat} (h : Rk l k 13 p) (hd : Dg l p (p + 0)) : Num l k false p := fun q => Goes.fail _ (h.1 q) (zds h.2 (by have := hd.2.2.2; rwa [Nat.add_zero] at this))
theorem z3g {l : List Nat} {k p n : Nat} (h : Rk l k 13 p) (hd : Dg l p (p + n)) (hn : 0 < n) : N6 l k (p + n) := ⟨14, Or.inr (Or.inr ⟨rfl, hd.2.2.2⟩), h.on fun q => zg2 (by omega) hd.2.1 hd.2.2.1⟩
theorem N6.end_ {l : List Nat} {k p : Nat} (h : N6 l k p) (h1 : at_ l p ≠ 101) (h2 : at_ l p ≠ 69) : Rk l k 5 p := by
 obtain ⟨M, hM, hr⟩ := h
 refine ⟨fun q => (hr.1 q).like (za2 ?_), hr.2⟩
 rcases hM with ⟨e, a⟩ | ⟨e, a, b⟩ | ⟨e, a⟩
 ·exact Or.inl ⟨e, a, h1, h2⟩
 ·exact Or.inr (Or.inl ⟨e, a, b, h1, h2⟩)
 ·exact Or.inr (Or.inr (Or.inl ⟨e, a, h1, h2⟩))
theorem N6.exp {l : List Nat} {k p : Nat} (h : N6 l k p) (h1 : at_ l p = 101 ∨ at_ l p = 69) : Rk l k 15 (p + 1) := by
 obtain ⟨M, hM, hr⟩ := h
 refine hr.on fun q => zei ?_ h1
 rcases hM with ⟨e, _⟩ | ⟨e, _⟩ | ⟨e, _⟩
 ·exact Or.inl e
 ·exact Or.inr (Or.inl e)
 ·exact Or.inr (Or.inr e)
def N8 (l : List Nat) (k p : Nat) : Prop := ∃ M, ((M = 15 ∧ at_ l p ≠ 43 ∧ at_ l p ≠ 45) ∨ M = 16) ∧ Rk l k M p
theorem z3h {l : List Nat} {k p : Nat} (h : Rk l k 15 p) (h1 : at_ l p = 43 ∨ at_ l p = 45) : N8 l k (p + 1) := ⟨16, Or.inr rfl, h.on fun q => zdn h1⟩
theorem zqj {l : List Nat} {k p : Nat} (h : Rk l k 15 p) (h1 : at_ l p ≠ 43) (h2 : at_ l p ≠ 45) : N8 l k p := ⟨15, Or.inl ⟨rfl, h1, h2⟩, h⟩
theorem N8.none {l : List Nat} {k p : Nat} (h : N8 l k p) (hd : Dg l p (p + 0)) : Num l k false p := fun q => by
 obtain ⟨M, hM, hr⟩ := h
 exact Goes.fail _ (hr.1 q) (zal hM hr.2 (by have := hd.2.2.2; rwa [Nat.add_zero] at this))
theorem N8.some_ {l : List Nat} {k p n : Nat} (h : N8 l k p) (hd : Dg l p (p + n)) (hn : 0 < n) : Rk l k 5 (p + n) := by
 obtain ⟨M, hM, hr⟩ := h
 have h17 : Rk l k 17 (p + n) := hr.on fun q => zbp (by rcases hM with ⟨e, _⟩ | e; exact Or.inl e; exact Or.inr e) (by omega) hd.2.1 hd.2.2.1
 exact ⟨fun q => (h17.1 q).like (za2 (Or.inr (Or.inr (Or.inr ⟨rfl, hd.2.2.2⟩)))), h17.2⟩
end Go.Proofs.YtgpbpgpolpakjaaGreatDoor
