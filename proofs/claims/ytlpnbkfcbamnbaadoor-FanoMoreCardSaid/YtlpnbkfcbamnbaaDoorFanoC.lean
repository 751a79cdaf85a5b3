/- Walks: numbers that rise: the sequence of some numbers is made. -/
import Derived.Test.YtlpnbkfcbamnbaaDoorFanoB
set_option linter.unusedVariables false
set_option linter.unusedSimpArgs false
set_option maxRecDepth 100000
namespace Go.Proofs.YtlpnbkfcbamnbaaDoor
open Go.RowKit Go.Shelf L

/-- Numbers that a sequence may have. -/
def L.RightN (l : List Nat) (B : Nat) : Prop := (1 ≤ B ∧ B ≤ 1099511627776) ∧ Ris l ∧ ∀ x ∈ l, x < B
theorem L.okFrom_nat : ∀ (zs : List Int) (p B : Int), 0 ≤ p → okFrom p B zs = true → ∃ l : List Nat, zs = l.map (fun x : Nat => (x : Int)) ∧ l.Pairwise (· ≤ ·) ∧ ∀ x ∈ l, p ≤ (x : Int) ∧ (x : Int) < B
  | [], p, B, _, _ => ⟨[], rfl, List.Pairwise.nil, fun x h => by cases h⟩
  | z :: zs, p, B, hp, h => by
    simp only [okFrom, Bool.and_eq_true, decide_eq_true_eq] at h
    obtain ⟨l, rfl, h1, h2⟩ := okFrom_nat zs z B (by omega) h.2
    obtain ⟨k, rfl⟩ := Int.eq_ofNat_of_zero_le (show 0 ≤ z by omega)
    refine ⟨k :: l, rfl, List.pairwise_cons.2 ⟨fun x hx => by have := h2 x hx; omega, h1⟩, fun x hx => ?_⟩
    rcases List.mem_cons.1 hx with e | e
    · subst e; exact h.1
    · have := h2 x e; omega
theorem L.nat_okFrom : ∀ (l : List Nat) (p B : Int), l.Pairwise (· ≤ ·) → (∀ x ∈ l, p ≤ (x : Int) ∧ (x : Int) < B) → okFrom p B (l.map (fun x : Nat => (x : Int))) = true
  | [], _, _, _, _ => rfl
  | x :: l, p, B, h, h2 => by
    have h' := List.pairwise_cons.1 h
    simp only [List.map_cons, okFrom, Bool.and_eq_true, decide_eq_true_eq]
    refine ⟨h2 x (List.mem_cons_self ..), nat_okFrom l x B h'.2 (fun y hy => ?_)⟩
    have := h'.1 y hy
    have := h2 y (List.mem_cons_of_mem _ hy)
    omega
theorem L.rightZ_nat {zs : List Int} {B : Int} (h : RightZ zs B) : ∃ (l : List Nat) (b : Nat), B = (b : Nat) ∧ zs = l.map (fun x : Nat => (x : Int)) ∧ RightN l b ∧ l.length < 16777216 := by
  obtain ⟨⟨h1, h2, h3⟩, h4⟩ := h
  obtain ⟨l, rfl, h5, h6⟩ := okFrom_nat zs 0 B (Int.le_refl _) h4
  obtain ⟨b, rfl⟩ := Int.eq_ofNat_of_zero_le (show 0 ≤ B by omega)
  rw [List.length_map] at h3
  exact ⟨l, b, rfl, rfl, ⟨by omega, h5, fun x hx => by have := h6 x hx; omega⟩, h3⟩
theorem L.RightN.z {l : List Nat} {b : Nat} (h : RightN l b) (hn : l.length < 16777216) : RightZ (l.map (fun x : Nat => (x : Int))) (b : Nat) :=
  ⟨⟨by have := h.1; omega, by have := h.1; omega, by rw [List.length_map]; exact hn⟩, nat_okFrom l 0 b h.2.1 (fun x hx => by have := h.2.2 x hx; omega)⟩
theorem ints_nat (l : List Nat) : ints (l.map (fun x : Nat => (x : Int))) = natCells l := by unfold ints natCells; rw [List.map_map]; rfl

/-- Not too many bits. -/
def L.Few (l : List Nat) (B : Nat) : Prop := l.length ≤ 10000 ∧ (B - 1) / 2 ^ wd l.length B ≤ 100000
/-- How many 0s the high row has. -/
def L.top (l : List Nat) (B : Nat) : Nat := (B - 1) / 2 ^ wd l.length B + 1
theorem L.RightN.up {l : List Nat} {B : Nat} (h : RightN l B) (w : Nat) : UpL w 0 l := Ris.up w l 0 h.2.1 (fun _ _ => Nat.zero_le _)
theorem L.RightN.part {l : List Nat} {B : Nat} (h : RightN l B) (w : Nat) {x : Nat} (hx : x ∈ l) : x / 2 ^ w ≤ (B - 1) / 2 ^ w := div_mono w (by have := h.2.2 x hx; omega)
theorem L.RightN.last {l : List Nat} {B : Nat} (h : RightN l B) (w : Nat) : lastP w 0 l ≤ (B - 1) / 2 ^ w := lastP_le w _ l 0 (Nat.zero_le _) (fun x hx => h.part w hx)

/-- A sequence at block s. -/
def SeqAt (w : World) (s : Nat) (l : List Nat) (B : Nat) : Prop :=
  ∃ gl Al cl gc gd gx A c Ad cd A1 c1 l1 A0 c0 l0, BlkIs w s 80 #[.int .i64 (l.length : Nat), .int .i64 (B : Nat), .int .i64 (wd l.length B : Nat), .pointer (some ⟨gl, 0, none⟩), .pointer (some ⟨gc, 0, none⟩), .int .i64 (l.length + top l B : Nat)] ∧
    RowAt w gl Al cl (lows (wd l.length B) l) ∧ ChooserAt w gc gd gx A c (high (wd l.length B) (top l B) l) Ad cd A1 c1 l1 A0 c0 l0
theorem SeqAt.below {w w' : World} {s : Nat} {l : List Nat} {B : Nat} (h : SeqAt w s l B) (hb : Below w.heap.size w w') : SeqAt w' s l B := by
  obtain ⟨gl, Al, cl, gc, gd, gx, A, c, Ad, cd, A1, c1, l1, A0, c0, l0, h1, h2, h3⟩ := h
  exact ⟨gl, Al, cl, gc, gd, gx, A, c, Ad, cd, A1, c1, l1, A0, c0, l0, h1.below hb, h2.below hb, h3.below hb⟩

/-- Two builders apart. -/
def Apart (ga : Nat) (va : Value) (gb : Nat) (vb : Value) : Prop := ga ≠ gb ∧ ∀ k, va.ownBlock = some k → vb.ownBlock ≠ some k
theorem Apart.symm {ga gb : Nat} {va vb : Value} (h : Apart ga va gb vb) : Apart gb vb ga va := ⟨fun e => h.1 e.symm, fun k h1 h2 => h.2 k h2 h1⟩
theorem two_put {w w' : World} {base ga gb : Nat} {va vb v' : Value} {ba bb : List Bool} (ha : BuilderAt w base ga va ba) (hb : BuilderAt w base gb vb bb) (hap : Apart ga va gb vb)
    (hat : v'.ownBlock = va.ownBlock ∨ ∃ k, v'.ownBlock = some k ∧ w.heap.size ≤ k) (ho : Only (fun i => i = ga ∨ va.ownBlock = some i) w w') : BuilderAt w' base gb vb bb ∧ Apart ga v' gb vb := by
  have n1 : va.ownBlock ≠ some gb := hb.blk.ne_own ha.own (by decide)
  have n2 : vb.ownBlock ≠ some ga := ha.blk.ne_own hb.own (by decide)
  refine ⟨BuilderAt.mk (hb.blk.only ho ?_) (own_only hb.own ho ?_), hap.1, fun k hk h2 => ?_⟩
  · rintro (e | e)
    · exact hap.1 e.symm
    · exact n1 e
  · rintro k hk (e | e)
    · exact n2 (by rw [hk, e])
    · exact hap.2 k e hk
  · rcases hat with e | ⟨j, e, hj⟩
    · exact hap.2 k (e ▸ hk) h2
    · rw [e] at hk; injection hk with hk
      have := (hb.own.lt _ h2).2
      omega

set_option maxHeartbeats 1000000 in
theorem make_err (A : Option Addr) (c : Nat) (zs : List Int) (B : Int) (w : World) (hl : Lst w A (ints zs)) (hn : zs.length ≤ 1000000) (h : ¬ RightZ zs B) :
    Calls Tryd.prog 16 #[.slice A zs.length c, .int .i64 B] w fun e w' => e = .returned (.tuple #[.pointer none, .int .i64 1]) ∧ w = w' := by
  have HR := hid (show Calls Tryd.prog 54 #[.slice A zs.length c, .int .i64 B] w (fun e w' => e = .returned (.bool false) ∧ w = w') by
    refine (right_any A c zs B w hl hn).mono ?_
    rintro e w' ⟨ok, rfl, rfl, hok⟩
    cases ok
    · exact ⟨rfl, rfl⟩
    · exact absurd (hok.1 rfl) h)
  clear h
  go_enter Tryd.func16, Tryd.ntmps16
  go_wp2_with fail
  (with_reducible refine (HR.out).mono ?_)
  rintro e w' ⟨rfl, rfl⟩
  go_wp2_with fail
  go_ret2
  exact ⟨rfl, rfl⟩

set_option maxHeartbeats 4000000 in
theorem make_ok (A : Option Addr) (c : Nat) (l : List Nat) (B : Nat) (w : World) (hl : Lst w A (natCells l)) (hr : RightN l B) (hf : Few l B) :
    Calls Tryd.prog 16 #[.slice A l.length c, .int .i64 (B : Nat)] w fun e w' => ∃ s, e = .returned (.tuple #[.pointer (some ⟨s, 0, none⟩), .int .i64 0]) ∧ SeqAt w' s l B ∧ Below w.heap.size w w' ∧ w.heap.size ≤ s := by
  have hn : l.length ≤ 10000 := hf.1
  have hB1 := hr.1.1
  have hB2 := hr.1.2
  have HR := hid (show Calls Tryd.prog 54 #[.slice A l.length c, .int .i64 (B : Nat)] w (fun e w' => e = .returned (.bool true) ∧ w = w') by
    have := right_any A c (l.map (fun x : Nat => (x : Int))) (B : Nat) w (by rw [ints_nat]; exact hl) (by rw [List.length_map]; omega)
    rw [List.length_map] at this
    refine this.mono ?_
    rintro e w' ⟨ok, rfl, rfl, hok⟩
    cases ok
    · exact absurd (hok.2 (hr.z (by omega))) (by simp)
    · exact ⟨rfl, rfl⟩)
  have HWD := hid (fun W => width_any l.length B W (by omega) hB2)
  have hwd := wd_le l.length B hB2
  have HHB := hid (fun W => highBits_any l.length B (wd l.length B) W (by omega) hB1 hB2 hwd)
  have htop : (B - 1) / 2 ^ wd l.length B ≤ 100000 := hf.2
  have HBU := hid (fun gl gx Al cl low A c hi W hl hh => build_any l.length B gl gx Al cl low A c hi W (by omega) hB2 hl hh)
  have HS := hid (show ∀ w s, (∃ gl Al cl gc gd gx A c Ad cd A1 c1 l1 A0 c0 l0, BlkIs w s 80 #[.int .i64 (l.length : Nat), .int .i64 (B : Nat), .int .i64 (wd l.length B : Nat), .pointer (some ⟨gl, 0, none⟩), .pointer (some ⟨gc, 0, none⟩), .int .i64 (l.length + ((B - 1) / 2 ^ wd l.length B + 1) : Nat)] ∧
    RowAt w gl Al cl (lows (wd l.length B) l) ∧ ChooserAt w gc gd gx A c (high (wd l.length B) ((B - 1) / 2 ^ wd l.length B + 1) l) Ad cd A1 c1 l1 A0 c0 l0) → SeqAt w s l B from fun w s h => h)
  have hup := hr.up (wd l.length B)
  have hla := hr.last (wd l.length B)
  have hx41 : ∀ x ∈ l, x < 1099511627776 := fun x hx => by have := hr.2.2 x hx; omega
  clear hf hr
  generalize wd l.length B = W at *
  generalize (B - 1) / 2 ^ W = T at *
  have hb1 : BuilderAt ((w.alloc (.cells #[.slice none 0 0, .int .i64 0] 70)).alloc (.cells #[.slice none 0 0, .int .i64 0] 70)) w.heap.size w.heap.size (.slice none 0 0) [] := (BuilderAt.new_at w w.heap.size w.heap.size rfl).below ((Below.refl _ _).alloc (Nat.le_refl _) _)
  have hb2 : BuilderAt ((w.alloc (.cells #[.slice none 0 0, .int .i64 0] 70)).alloc (.cells #[.slice none 0 0, .int .i64 0] 70)) w.heap.size (w.heap.size + 1) (.slice none 0 0) [] := BuilderAt.new_at _ w.heap.size (w.heap.size + 1) (by show _ = (w.heap.push _).size; rw [Array.size_push])
  have hB0 : Below w.heap.size w ((w.alloc (.cells #[.slice none 0 0, .int .i64 0] 70)).alloc (.cells #[.slice none 0 0, .int .i64 0] 70)) := ((Below.refl _ _).alloc (Nat.le_refl _) _).alloc (by show _ ≤ (w.heap.push _).size; rw [Array.size_push]; omega) _
  go_enter Tryd.func16, Tryd.ntmps16
  go_wp2_with fail
  (with_reducible refine (HR.out).mono ?_)
  rintro e w' ⟨rfl, rfl⟩
  go_wp2_with fail
  (with_reducible refine (HWD.out _).mono ?_)
  rintro e w' ⟨rfl, rfl⟩
  go_wp2_with fail
  have h0s : w.heap.size ≤ w.heap.size := Nat.le_refl _
  go_loopw [9, 22] (fun part i wr => ∃ (k : Nat) (v1 v2 : Value), k ≤ l.length ∧ i = .int .i64 (k : Nat) ∧ part = .int .i64 (lastP W 0 (l.take k) : Nat) ∧ BuilderAt wr w.heap.size w.heap.size v1 (lows W (l.take k)) ∧ BuilderAt wr w.heap.size (w.heap.size + 1) v2 (hiL W 0 (l.take k)) ∧ Apart w.heap.size v1 (w.heap.size + 1) v2 ∧ Below w.heap.size w wr) (fun _ i _ => l.length - (intOf i).toNat)
  case atStart => exact ⟨0, _, _, by omega, rfl, rfl, hb1, hb2, ⟨by omega, fun k h => by cases h⟩, hB0⟩
  case round =>
    obtain ⟨k, v1, v2, hk, rfl, rfl, hc1, hc2, hap, hB⟩ := hrel
    clear hb1 hb2 hB0
    rcases Nat.lt_or_ge k l.length with hlt | hge
    · have hki : (k : Int) < (l.length : Int) := by omega
      have hk0 : (0 : Int) ≤ (k : Int) := by omega
      have hkw := wrap_one k (by omega)
      have hsz := hB.size
      obtain ⟨ab, ao, rfl, had, hcl⟩ := hl.lit (by rw [natCells_length]; omega)
      have hcell := (hB.cell (p := ⟨ab, ao + k, none⟩) had).trans (hcl k (.int .i64 (l[k] : Nat)) (by unfold natCells; rw [List.getElem?_map, List.getElem?_eq_getElem hlt]; rfl))
      have htk : l.take (k + 1) = l.take k ++ [l[k]] := List.take_succ_eq_append_getElem hlt
      have hx := hx41 _ (List.getElem_mem hlt)
      have hspl : l = l.take k ++ l[k] :: l.drop (k + 1) := by rw [← List.drop_eq_getElem_cons hlt, List.take_append_drop]
      have hpu : lastP W 0 (l.take k) ≤ l[k] / 2 ^ W := by
        rw [hspl, UpL_append] at hup
        exact hup.2.1
      have HL := hid (show lows W (l.take k) ++ bitsOf (l[k] % 2 ^ W) W = lows W (l.take (k + 1)) by rw [htk, lows_snoc])
      have HH := hid (show (hiL W 0 (l.take k) ++ List.replicate (l[k] / 2 ^ W - lastP W 0 (l.take k)) false) ++ [true] = hiL W 0 (l.take (k + 1)) by rw [htk, hiL_append]; simp [hiL])
      have HP := hid (show l[k] / 2 ^ W = lastP W 0 (l.take (k + 1)) by rw [htk, lastP_append]; rfl)
      have hlT : l[k] / 2 ^ W ≤ T := by
        have h1 : UpL W (l[k] / 2 ^ W) (l.drop (k + 1)) := by rw [hspl, UpL_append] at hup; exact hup.2.2
        have h2 := UpL_le W _ _ h1
        rw [hspl, lastP_append] at hla
        exact Nat.le_trans h2 hla
      have hlen1 : (lows W (l.take k)).length + W ≤ 4294967296 := by
        rw [lows_length, List.length_take]
        have : min k l.length * W ≤ 10000 * 40 := Nat.mul_le_mul (by omega) hwd
        omega
      have hlen2 : (hiL W 0 (l.take k)).length + (l[k] / 2 ^ W - lastP W 0 (l.take k)) + 1 ≤ 4294967296 := by
        have h1 : UpL W 0 (l.take k) := by rw [hspl, UpL_append] at hup; exact hup.1
        rw [hiL_length W _ 0 h1, List.length_take]; omega
      generalize l[k] = x at *
      have hq : (x : Int) / 2 ^ W = ((x / 2 ^ W : Nat) : Int) := by norm_cast
      generalize x / 2 ^ W = q at *
      generalize lastP W 0 (l.take k) = p at *
      have hqp : IntKind.i64.wrap ((q : Int) - (p : Int)) = ((q - p : Nat) : Int) := by rw [IntKind.wrap_i64]; omega
      clear hcl htk hspl
      go_wp2_with fail
      refine (fnumber_any x W w.heap.size w.heap.size v1 _ _ (by omega) (by omega) hlen1 (by exact hc1) (by exact hsz)).mono ?_
      rintro e w1 ⟨rfl, u1, hd1, hat1, ho1⟩
      rw [HL.out] at hd1
      obtain ⟨hd2, hap1⟩ := two_put hc1 hc2 hap hat1 ho1
      have hBa := hB.trans (putDone_below hc1 (Nat.le_refl _) (Nat.le_refl _) hsz ho1)
      have hsa := hBa.size
      go_wp2_with fail
      refine (noughts_any (q - p) w.heap.size (w.heap.size + 1) v2 (hiL W 0 (l.take k)) _ (by omega) (by exact hd2) (by exact hsa)).mono ?_
      rintro e w2 ⟨rfl, u2, he2, hat2, ho2⟩
      obtain ⟨he1, hap2⟩ := two_put hd2 hd1 hap1.symm hat2 ho2
      have hBb := hBa.trans (putDone_below hd2 (Nat.le_succ _) (Nat.le_refl _) hsa ho2)
      have hsb := hBb.size
      go_wp2_with fail
      refine (bit_any true w.heap.size (w.heap.size + 1) u2 (hiL W 0 (l.take k) ++ List.replicate (q - p) false) _ (by rw [List.length_append, List.length_replicate]; omega) (by exact he2) (by exact hsb)).mono ?_
      rintro e w3 ⟨rfl, u3, hf2, hat3, ho3⟩
      obtain ⟨hf1, hap3⟩ := two_put he2 he1 hap2 hat3 ho3
      rw [HH.out] at hf2
      have hBc := hBb.trans (putDone_below he2 (Nat.le_succ _) (Nat.le_refl _) hsb ho3)
      go_wp2_with fail
      go_roundw
      case rel => exact ⟨k + 1, u1, u3, by omega, by go_num, by rw [← HP.out], hf1, hf2, hap3.symm, hBc⟩
      case measure => simp [intOf]; omega
    · obtain rfl : k = l.length := by omega
      rw [List.take_length] at hc1 hc2
      rw [List.take_length]
      have hsz := hB.size
      have hlen := hiL_length W l 0 hup
      generalize hpp : lastP W 0 l = p at *
      have hlen2 : (hiL W 0 l).length = l.length + p := by rw [hlen]; omega
      have HLN := hid hlen2
      have hsub : (l.length : Int) + (T : Int) + 1 - ((l.length : Int) + (p : Int)) = ((T + 1 - p : Nat) : Int) := by omega
      have hcc := hc2.blk.cell 1
      go_wp2_with fail
      (with_reducible refine (HHB.out _).mono ?_)
      rintro e w' ⟨rfl, rfl⟩
      go_wp2_with fail
      refine (blen_any (w.heap.size + 1) (l.length + p : Nat) _ (by rw [← HLN.out]; exact hcc)).mono ?_
      rintro e w' ⟨rfl, rfl⟩
      go_wp2_with fail
      try rw [hsub]
      have hHI := hid (show hiL W 0 l ++ List.replicate (T + 1 - p) false = high W (T + 1) l by unfold high; rw [hpp])
      refine (noughts_any (T + 1 - p) w.heap.size (w.heap.size + 1) v2 (hiL W 0 l) _ (by omega) (by exact hc2) (by exact hsz)).mono ?_
      rintro e w2 ⟨rfl, u2, he2, hat2, ho2⟩
      obtain ⟨he1, hap2⟩ := two_put hc2 hc1 hap.symm hat2 ho2
      rw [hHI.out] at he2
      have hBb := hB.trans (putDone_below hc2 (Nat.le_succ _) (Nat.le_refl _) hsz ho2)
      have hsb := hBb.size
      have hll : (lows W l).length ≤ 4294967296 := by
        rw [lows_length]
        have : l.length * W ≤ 10000 * 40 := Nat.mul_le_mul (by omega) hwd
        omega
      have hhl : (high W (T + 1) l).length = l.length + (T + 1) := high_length W (T + 1) l hup (by omega)
      have HHL := hid hhl
      go_wp2_with fail
      refine (row_any _ _ v1 (lows W l) _ (by exact he1) hll).mono ?_
      rintro e w3 ⟨gl, Al, cL, rfl, hrl, hgl, hAl, hB3⟩
      have hz3 := hB3.size
      go_wp2_with fail
      refine (row_any _ _ u2 (high W (T + 1) l) _ (by exact he2.below hB3) (by rw [hhl]; omega)).mono ?_
      rintro e w4 ⟨gx, Ax, cx, rfl, hrx, hgx, hAx, hB4⟩
      have hz4 := hB4.size
      go_wp2_with fail
      refine (HBU.out gl gx Al cL (lows W l) Ax cx (high W (T + 1) l) _ (by exact hrl.below hB4) (by exact hrx)).mono ?_
      rintro e w5 ⟨s, gc, gd, Ad, cd, A1, c1, l1, A0, c0, l0, rfl, hbk, hch, hlo, hB5, hs⟩
      go_wp2_with fail
      go_ret2
      rw [HHL.out] at hbk
      exact ⟨s, rfl, HS.out _ _ ⟨gl, Al, cL, gc, gd, gx, Ax, cx, Ad, cd, A1, c1, l1, A0, c0, l0, hbk, hlo, hch⟩, ((hBb.trans (hB3.mono hsb)).trans (hB4.mono (by omega))).trans (hB5.mono (by omega)), by omega⟩

end Go.Proofs.YtlpnbkfcbamnbaaDoor
