/- Walks: a record's entry is held against it. -/
import Derived.Test.YtgpbpgpolpakjaaGreatDoorLoadB
import Derived.Test.YtgpbpgpolpakjaaGreatDoorSemiX
import Derived.Test.YtgpbpgpolpakjaaGreatDoorTabG
import Derived.Deep.RegionLaw
set_option linter.unusedVariables false
set_option linter.unusedSimpArgs false
set_option maxRecDepth 100000
namespace Go.Proofs.YtgpbpgpolpakjaaGreatDoor
open Go.RowKit Go.Shelf L

/-- What look leaves. -/
def LookPost (s : ByteArray) (r : RecN) (x : EntI) (w : World) (e : Ending) (w' : World) : Prop :=
  Below w.heap.size w w' ∧ ((∃ q, e = .returned (.tuple #[.pointer q, .bool true]) ∧ x = recE s r ∧ (r.v = 1 → ∃ gi, q = some ⟨gi, 0, none⟩ ∧ IdxAt w' gi (s.extract r.a r.b)) ∧ (r.v ≠ 1 → q = none)) ∨
    (e = .returned (.tuple #[.pointer none, .bool false]) ∧ x ≠ recE s r))
set_option maxHeartbeats 4000000 in
theorem look26_any (s : ByteArray) (deep : Nat) (r : RecN) (x : EntI) (w : World) (hr : r ∈ recs (nb s) deep) (hs : s.size ≤ 4096) (hd : deep ≤ 4096) (hx : x.v = 1 ∨ x.s.size = 0) (hxs : x.s.size ≤ 1450) (hT : Tab w) :
    Calls Tryz.prog 69 #[.string s, .agg #[.int .i64 (r.a : Nat), .int .i64 (r.b : Nat), .int .i64 (r.v : Nat), .int .i64 (r.p : Nat)], .agg #[.int .i64 x.a, .int .i64 x.b, .int .i64 x.v, .int .i64 x.p, .string x.s]] w (LookPost s r x w) := by
  have hok := rec_ok hr hs
  have HNB := hid (fun a b => nb_ext s a b)
  have HN := hid (show ∀ w', Below w.heap.size w w' → x ≠ recE s r → LookPost s r x w (.returned (.tuple #[.pointer none, .bool false])) w' from fun w' h1 h2 => ⟨h1, .inr ⟨rfl, h2⟩⟩)
  have HY := hid (show ∀ w' q, Below w.heap.size w w' → x = recE s r → (r.v = 1 → ∃ gi, q = some ⟨gi, 0, none⟩ ∧ IdxAt w' gi (s.extract r.a r.b)) → (r.v ≠ 1 → q = none) → LookPost s r x w (.returned (.tuple #[.pointer q, .bool true])) w' from fun w' q h1 h2 h3 h4 => ⟨h1, .inl ⟨q, rfl, h2, h3, h4⟩⟩)
  have HTX := hid (fun a b v p W => text24_any s a b (.int .i64 v) (.int .i64 p) rfl rfl W (by omega))
  have HEQ := hid (show ∀ (a b v p : Int), a = (r.a : Nat) → b = (r.b : Nat) → v = (r.v : Nat) → p = (r.p : Nat) → ((⟨a, b, v, p, x.s⟩ : EntI) = recE s r ↔ x.s = idxOf s r) from fun a b v p ha hb hv hp => by
    unfold recE
    constructor
    · intro e; injection e
    · intro e; rw [ha, hb, hv, hp, e])
  have HNE := hid (show ∀ (a b v p : Int), (⟨a, b, v, p, x.s⟩ : EntI) = recE s r → a = (r.a : Nat) ∧ b = (r.b : Nat) ∧ v = (r.v : Nat) ∧ p = (r.p : Nat) from fun a b v p e => by
    unfold recE at e
    injection e with e1 e2 e3 e4
    exact ⟨e1, e2, e3, e4⟩)
  obtain ⟨xa, xb, xv, xp, xs⟩ := x
  obtain ⟨ra, rb, rv, rp⟩ := r
  dsimp only at *
  obtain ⟨m1, m2, m3, m4, m5, m6, m7⟩ := hok
  have hlo := lo_nat s.size ra (by omega)
  have hhi := hi_nat s.size ra rb m1 m2
  have HT1 := hid (fun W => HTX.out (ra : Nat) (rb : Nat) (rv : Nat) (rp : Nat) W)
  rw [hlo, hhi] at HT1
  have HEN := hid (fun W => loadEntry_any (ra : Nat) (rb : Nat) (rv : Nat) (rp : Nat) W)
  clear hlo hhi HTX
  have hB1 : Below w.heap.size w (w.alloc (.cells #[.int .i64 (ra : Nat), .int .i64 (rb : Nat), .int .i64 (rv : Nat), .int .i64 (rp : Nat)] 96)) := (Below.refl _ _).alloc (Nat.le_refl _) _
  have hR1 := BlkIs.new w 96 #[.int .i64 (ra : Nat), .int .i64 (rb : Nat), .int .i64 (rv : Nat), .int .i64 (rp : Nat)]
  have hz1 : (w.alloc (.cells #[.int .i64 (ra : Nat), .int .i64 (rb : Nat), .int .i64 (rv : Nat), .int .i64 (rp : Nat)] 96)).heap.size = w.heap.size + 1 := by simp
  have hX2 := BlkIs.new (w.alloc (.cells #[.int .i64 (ra : Nat), .int .i64 (rb : Nat), .int .i64 (rv : Nat), .int .i64 (rp : Nat)] 96)) 113 #[.int .i64 xa, .int .i64 xb, .int .i64 xv, .int .i64 xp, .string xs]
  rw [hz1] at hX2
  have hR2 := hR1.alloc (.cells #[.int .i64 xa, .int .i64 xb, .int .i64 xv, .int .i64 xp, .string xs] 113)
  have hB2 := hB1.alloc (by rw [hz1]; omega) (.cells #[.int .i64 xa, .int .i64 xb, .int .i64 xv, .int .i64 xp, .string xs] 113)
  have r0 := hR2.cell 0
  have r1 := hR2.cell 1
  have r2 := hR2.cell 2
  have r3 := hR2.cell 3
  clear hB1 hR1 hz1
  go_enter Tryz.func69, Tryz.ntmps69
  go_wp2_with fail
  generalize ((w.alloc (.cells #[.int .i64 (ra : Nat), .int .i64 (rb : Nat), .int .i64 (rv : Nat), .int .i64 (rp : Nat)] 96)).alloc (.cells #[.int .i64 xa, .int .i64 xb, .int .i64 xv, .int .i64 xp, .string xs] 113)) = W2 at *
  refine (HEN.out _).mono ?_
  rintro e w3 ⟨rfl, hB3⟩
  have hX3 := hX2.below hB3
  have hR3 := hR2.below hB3
  have hB03 := hB2.trans (hB3.mono hB2.size)
  clear hX2 hR2 hB2 hB3 r0 r1 r2 r3
  have hz3 := hB03.size
  have hXl := hX3.lt
  have hX4 := hX3.alloc (.cells #[.int .i64 (ra : Nat), .int .i64 (rb : Nat), .int .i64 (rv : Nat), .int .i64 (rp : Nat), .string ⟨#[]⟩] 113)
  have x4 := hX4.cell 4
  have hX5 := hX3.alloc (.cells #[.int .i64 (ra : Nat), .int .i64 (rb : Nat), .int .i64 (rv : Nat), .int .i64 (rp : Nat), .string xs] 113)
  have hR5 := hR3.alloc (.cells #[.int .i64 (ra : Nat), .int .i64 (rb : Nat), .int .i64 (rv : Nat), .int .i64 (rp : Nat), .string xs] 113)
  have hB5 := hB03.alloc hz3 (.cells #[.int .i64 (ra : Nat), .int .i64 (rb : Nat), .int .i64 (rv : Nat), .int .i64 (rp : Nat), .string xs] 113)
  have c0 := hX5.cell 0
  have c1 := hX5.cell 1
  have c2 := hX5.cell 2
  have c3 := hX5.cell 3
  have c4 := hX5.cell 4
  by_cases hall : xa = (ra : Nat) ∧ xb = (rb : Nat) ∧ xv = (rv : Nat) ∧ xp = (rp : Nat)
  case neg =>
    have HNN := hid (show (⟨xa, xb, xv, xp, xs⟩ : EntI) ≠ recE s ⟨ra, rb, rv, rp⟩ from fun e => hall (HNE.out _ _ _ _ e))
    go_wp2_with fail
    all_goals go_ret2
    all_goals exact HN.out _ hB5 HNN.out
  obtain ⟨rfl, rfl, rfl, rfl⟩ := hall
  have HE := hid (HEQ.out _ _ _ _ rfl rfl rfl rfl)
  have HR5 := hid hR5
  have v2 := hR5.cell 2
  have hsame := bytes_same14 xs
  clear HEQ HNE hR5
  by_cases hv : rv = 1
  case neg =>
    have hvI : ¬ ((rv : Nat) : Int) = 1 := by omega
    have hvb : (((rv : Nat) : Int) != 1) = true := by rw [bne_iff_ne]; exact hvI
    have HV := hid hv
    have HXE := hid (show (⟨(ra : Nat), (rb : Nat), (rv : Nat), (rp : Nat), xs⟩ : EntI) = recE s ⟨ra, rb, rv, rp⟩ from HE.out.2 (by
      have h0 : xs.size = 0 := by
        rcases hx with hx | hx
        · exact absurd hx hvI
        · exact hx
      unfold idxOf
      rw [if_neg hv]; exact str_nil h0))
    clear hx hv
    go_wp2_with fail
    go_ret2
    exact HY.out _ none hB5 HXE.out (fun h => absurd h HV.out) (fun _ => rfl)
  have hlook := m6 hv hd
  have HV := hid hv
  have hvb : (((rv : Nat) : Int) != 1) = false := by rw [hv]; rfl
  have hvc : (((rv : Nat) : Int) == 1) = true := by rw [hv]; rfl
  have hvd : decide (((rv : Nat) : Int) = 1) = true := decide_eq_true (by omega)
  have HXD := hid (show idxOf s ⟨ra, rb, rv, rp⟩ = idxS (nb (s.extract ra rb)) from by unfold idxOf; rw [if_pos hv, HNB.out]; rfl)
  rw [HXD.out] at HE
  have HLD := hid (fun W hW => semiLoad_any (s.extract ra rb) xs W (by rw [HNB.out]; exact hlook) (by rw [HNB.out, places_length]; have := mks_length (sub_ (nb s) ra rb); unfold sub_ at *; omega) hW (by omega) (fun h => by omega))
  unfold LoadPost at HLD
  have HGD := hid (show ∃ m B R, GoodIdx (idxS (nb (s.extract ra rb))).data.toList m B R from by
    have hl := look_text (l := nb (s.extract ra rb)) (by rw [HNB.out]; exact hlook)
    exact ⟨_, _, _, idxS_good hl.1 hl.2 (by rw [HNB.out, places_length]; have := mks_length (sub_ (nb s) ra rb); unfold sub_ at *; omega)⟩)
  have c5 := HR5.out.cell 0
  have c6 := HR5.out.cell 1
  have c7 := HR5.out.cell 3
  clear hv hx hlook m6 m7
  go_wp2_with fail
  generalize (w3.alloc (.cells #[.int .i64 (ra : Nat), .int .i64 (rb : Nat), .int .i64 (rv : Nat), .int .i64 (rp : Nat), .string xs] 113)) = w5 at *
  have hz5 := hB5.size
  have hT5 := hT.below hB5
  go_region_law (first
    | (refine step_call (o := ⟨some 27, _, _, _, _, _⟩) rfl 61 #[.string s, .agg #[.int .i64 (ra : Nat), .int .i64 (rb : Nat), .int .i64 (rv : Nat), .int .i64 (rp : Nat)]] (by go_simp) ?_; refine (HT1.out _).mono ?_; rintro e w6 ⟨rfl, hB6⟩;
       have hB56 : Below w5.heap.size w5 w6 := (Below.refl w5.heap.size w5).drew.trans hB6;
       have hX6 := hX5.below hB56;
       have cc4 := hX6.cell 4;
       have hB06 := hB5.trans (hB56.mono hz5);
       have hT6 := hT.below hB06;
       refine ⟨_, rfl, ?_⟩)
    | (refine step_call (o := ⟨some 30, _, _, _, _, _⟩) rfl 10 #[.string (s.extract ra rb), .string xs] (by go_simp) ?_; refine (HLD.out _ hT6).mono ?_; rintro e w7 ⟨hB7, hres⟩;
       have hB07 := hB06.trans (hB7.mono hB06.size);
       have HRES : ∃ q k, e = .returned (.tuple #[.pointer q, .int .i64 k]) ∧ ((k = 0 ∧ ∃ gi, q = some ⟨gi, 0, none⟩ ∧ IdxAt w7 gi (s.extract ra rb) ∧ xs = idxS (nb (s.extract ra rb))) ∨ (k ≠ 0 ∧ q = none ∧ xs ≠ idxS (nb (s.extract ra rb)))) := (by
         rcases hres with ⟨gi, rfl, hi, hxe⟩ | ⟨rfl, hno⟩ | ⟨rfl, _, hne⟩
         · exact ⟨_, 0, rfl, .inl ⟨rfl, gi, rfl, hi, hxe⟩⟩
         · exact ⟨_, 3, rfl, .inr ⟨by omega, rfl, fun e => by
             obtain ⟨m, B, R, hgd⟩ := HGD.out
             exact hno m B R (by rw [e]; exact hgd)⟩⟩
         · exact ⟨_, 12, rfl, .inr ⟨by omega, rfl, hne⟩⟩);
       obtain ⟨q, k, rfl, hk⟩ := HRES;
       refine ⟨_, rfl, ?_⟩))
  all_goals
    rcases hk with ⟨rfl, gi, rfl, hix, hxe⟩ | ⟨hk0, rfl, hxne⟩
    · go_wp2_with fail
      go_ret2
      exact HY.out _ _ hB07 (HE.out.2 hxe) (fun _ => ⟨gi, rfl, hix⟩) (fun h => absurd HV.out h)
    · have hkb : (k == 0) = false := by rw [beq_eq_false_iff_ne]; exact hk0
      have hkd : decide (k = 0) = false := decide_eq_false hk0
      go_wp2_with fail
      go_ret2
      exact HN.out _ hB07 (fun e => hxne (HE.out.1 e))
end Go.Proofs.YtgpbpgpolpakjaaGreatDoor
