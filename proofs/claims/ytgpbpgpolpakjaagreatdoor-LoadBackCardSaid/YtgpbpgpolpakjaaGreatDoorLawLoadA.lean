/- Walks: the law LoadBack returns true. -/
import Derived.Test.YtgpbpgpolpakjaaGreatDoorLoadE
set_option linter.unusedVariables false
set_option linter.unusedSimpArgs false
set_option maxRecDepth 100000
namespace Go.Proofs.YtgpbpgpolpakjaaGreatDoor
open Go.RowKit Go.Shelf L

def txt26 : ByteArray := { data := #[49, 10, 91] }
theorem L.txt26_spans : spans (nb txt26) = [(0, 1), (2, 3)] := by decide +kernel
set_option maxHeartbeats 1000000 in
theorem awake26 (w : World) : Calls Tryz.prog 17 #[] w fun e w' => e = .returned (.bool true) ∧ Below w.heap.size w w' := by
  have HB := hid (build_ok txt26 3 w (by decide) (by omega) (by omega))
  have hl : (recs (nb txt26) 3).length = 2 := by rw [recs_length, txt26_spans]; rfl
  have HL := hid (fun g W hW => setLen_any g txt26 3 W hW)
  rw [hl] at HL
  unfold BuildPost at HB
  go_enter Tryz.func17, Tryz.ntmps17
  go_wp2_with fail
  refine (HB.out).mono ?_
  rintro e w1 ⟨g, rfl, hg, hB1⟩
  go_wp2_with fail
  refine (HL.out g _ hg).mono ?_
  rintro e w' ⟨rfl, rfl⟩
  go_wp2_with fail
  go_ret
  exact ⟨by first | rfl | simp, hB1⟩

/-- A small file's table is short. -/
theorem L.idxS_400 {l : List Nat} (h : l.length ≤ 400) : (idxS l).size ≤ 1250 := by
  have e1 := idxS_list l
  have e2 : (idxS l).data.toList.length = (idxS l).size := by rw [Array.length_toList]; rfl
  have e3 := seqS_few h
  have e4 : (seqS l).size = (seqL (places l) (bndN l)).length := rfl
  have e5 := parens_length l
  have e6 := mks_length l
  rw [← e2, e1]
  unfold idxL
  rw [List.length_append, List.length_append, leB_length, ← e4, row_length]
  unfold nwords
  omega
theorem L.tblS_ents (s : ByteArray) (deep : Nat) (hs : s.size ≤ 400) : ∀ x ∈ (tblS s deep).es, x.s.size ≤ 1250 := fun x hx => by
  obtain ⟨r, hr, rfl⟩ := List.mem_map.1 (show x ∈ (recs (nb s) deep).map (recE s) from hx)
  show (idxOf s r).size ≤ 1250
  unfold idxOf
  split
  · exact idxS_400 (by have := (rec_ok hr (by omega)).2.2.2.2.2.2; omega)
  · show 0 ≤ _; omega
theorem L.tabS_400 (s : ByteArray) (deep : Nat) (hs : s.size ≤ 400) : (tabS s deep).size ≤ 1000000 := by
  have hf := recs_few (nb s) deep
  rw [nb_length] at hf
  have hl : (tblS s deep).es.length = (recs (nb s) deep).length := by unfold tblS; rw [List.length_map]
  have h1 := entsL_le 1250 (tblS s deep).es (tblS_ents s deep hs)
  have e1 : (tabS s deep).size = (tabL (tblS s deep)).length := by
    show (tabL (tblS s deep)).toArray.size = _
    rw [List.size_toArray]
  have h2 : (tblS s deep).es.length * (33 + 1250) ≤ 400 * (33 + 1250) := Nat.mul_le_mul_right _ (by omega)
  rw [e1, tabL_length, headL_length]
  omega
theorem L.tabS_list (s : ByteArray) (deep : Nat) : (tabS s deep).data.toList = tabL (tblS s deep) := by unfold tabS; simp
theorem L.tabS_is (s : ByteArray) (deep : Nat) (hs : s.size ≤ 4096) (h1 : 1 ≤ deep) (h2 : deep ≤ 4096) : IsTab (tabS s deep).data.toList (tblS s deep) := ⟨tblS_form s deep hs h1 h2, tabS_list s deep⟩
theorem L.tblS_deep (s : ByteArray) (deep : Nat) : (tblS s deep).deep.toNat = deep := by unfold tblS; simp
theorem beq_same26 (s : ByteArray) : (s.toList == s.toList) = true := by rw [beq_iff_eq]
theorem beq_ne26 {s t : ByteArray} (h : s ≠ t) : (s.toList == t.toList) = false := by
  rw [beq_eq_false_iff_ne]
  intro e
  rw [ByteArray.toList_eq, ByteArray.toList_eq] at e
  exact h (bytes_ext e)

set_option maxHeartbeats 4000000 in
theorem lawLoadBack_long (s t : ByteArray) (n : Nat) (w : World) (h : 400 < s.size ∨ 400 < t.size) :
    Calls Tryz.prog 6 #[.string s, .string t, .int .u16 (n : Nat)] w fun e w' => e = .returned (.bool true) ∧ Below w.heap.size w w' := by
  by_cases h1 : 400 < s.size
  · have g1 : (400 : Int) < (s.size : Int) := by omega
    go_enter Tryz.func6, Tryz.ntmps6
    go_wp2_with fail
    refine (awake26 _).mono ?_
    rintro e w1 ⟨rfl, hB1⟩
    go_wp2_with fail
    refine (awake26 _).mono ?_
    rintro e w2 ⟨rfl, hB2⟩
    go_wp2_with fail
    go_ret
    exact ⟨rfl, hB1.trans (hB2.mono hB1.size)⟩
  · have g1 : ¬ ((400 : Int) < (s.size : Int)) := by omega
    have g2 : (400 : Int) < (t.size : Int) := by omega
    go_enter Tryz.func6, Tryz.ntmps6
    go_wp2_with fail
    refine (awake26 _).mono ?_
    rintro e w1 ⟨rfl, hB1⟩
    go_wp2_with fail
    refine (awake26 _).mono ?_
    rintro e w2 ⟨rfl, hB2⟩
    go_wp2_with fail
    go_ret
    exact ⟨rfl, hB1.trans (hB2.mono hB1.size)⟩

set_option maxHeartbeats 8000000 in
theorem lawLoadBack_main (s t : ByteArray) (n : Nat) (w : World) (h1 : s.size ≤ 400) (h2 : t.size ≤ 400) (hn : n < 65536) (hT : Tab w) :
    Calls Tryz.prog 6 #[.string s, .string t, .int .u16 (n : Nat)] w fun e w' => e = .returned (.bool true) ∧ Below w.heap.size w w' := by
  have g1 : ¬ ((400 : Int) < (s.size : Int)) := by omega
  have g2 : ¬ ((400 : Int) < (t.size : Int)) := by omega
  obtain ⟨d, hd⟩ : ∃ d, d = 1 + n % 4096 := ⟨_, rfl⟩
  have hd1 : 1 ≤ d := by omega
  have hd2 : d ≤ 4096 := by omega
  have hdI : 1 + (n : Int) % 4096 = (d : Int) := by omega
  have H1 := hid (fun W => build_ok s d W (by omega) hd1 hd2)
  have H2 := hid (fun W => build_ok t d W (by omega) hd1 hd2)
  have B1 := hid (fun g W hW hTW => setBytes_any g s d W hW hTW (by omega) hd1 hd2)
  have B2 := hid (fun g W hW hTW => setBytes_any g t d W hW hTW (by omega) hd1 hd2)
  have D1 := hid (fun g W hW => setDeep_any g s d W hW)
  have his := tabS_is s d (by omega) hd1 hd2
  have hsz := tabS_400 s d h1
  have hbs : ∀ u, IsTab (tabS s d).data.toList u → ∀ x ∈ u.es, x.s.size ≤ 1450 := fun u hu x hx => by
    rw [hu.uniq his] at hx
    have := tblS_ents s d h1 x hx
    omega
  have L1 := hid (fun W hW => load26_any s (tabS s d) W (by omega) hsz hW hbs)
  have L2 := hid (fun W hW => load26_any t (tabS s d) W (by omega) hsz hW hbs)
  unfold Load26 at L1 L2
  unfold BuildPost at H1 H2
  have HG1 := hid (show ∀ u, IsTab (tabS s d).data.toList u → u = tblS s d from fun u hu => hu.uniq his)
  have HIS := hid his
  have HDE := hid (fun x d => tblS_deep x d)
  have HTL := hid (show (tabS s d = tabS t d ↔ tblS s d = tblS t d) from by
    constructor
    · intro e
      have h3 := tabS_is t d (by omega) hd1 hd2
      rw [← e] at h3
      exact (h3.uniq his).symm
    · intro e; unfold tabS; rw [e])
  clear hd h1 h2 his hsz hbs
  generalize hI : tabS s d = I at *
  generalize hJ : tabS t d = J at *
  clear hI hJ
  go_enter Tryz.func6, Tryz.ntmps6
  go_wp2_with fail
  refine (awake26 _).mono ?_
  rintro e w1 ⟨rfl, hB1⟩
  go_wp2_with fail
  refine (H1.out _).mono ?_
  rintro e w2 ⟨x, rfl, hx, hB2⟩
  have hB02 := hB1.trans (hB2.mono hB1.size)
  go_wp2_with fail
  refine (H2.out _).mono ?_
  rintro e w3 ⟨y, rfl, hy, hB3⟩
  have hB03 := hB02.trans (hB3.mono hB02.size)
  have hx3 := hx.below hB3
  have hT3 := hT.below hB03
  clear hx hB1 hB2 hB3 hB02
  go_wp2_with fail
  refine (B1.out x _ hx3 hT3).mono ?_
  rintro e w4 ⟨rfl, hB4⟩
  have hB04 := hB03.trans (hB4.mono hB03.size)
  have hx4 := hx3.below hB4
  have hy4 := hy.below hB4
  have hT4 := hT3.below hB4
  clear hx3 hy hT3 hB4 hB03
  go_wp2_with fail
  refine (L1.out _ hT4).mono ?_
  rintro e w5 ⟨hB5, ⟨z, dz, rfl, hz1, hz2, hz, hzt⟩ | ⟨rfl, hno⟩ | ⟨rfl, u, hu, hne⟩⟩
  case inr.inl => exact absurd HIS.out (hno _)
  case inr.inr =>
    have e1 := HG1.out u hu
    rw [e1, HDE.out] at hne
    exact absurd rfl hne
  obtain rfl : dz = d := by
    have e1 := HG1.out _ hzt
    have e2 := HDE.out s dz
    rw [e1, HDE.out] at e2
    exact e2.symm
  have hB05 := hB04.trans (hB5.mono hB04.size)
  have hx5 := hx4.below hB5
  have hy5 := hy4.below hB5
  have hT5 := hT4.below hB5
  clear hx4 hy4 hT4 hB5 hB04 hzt hz1 hz2
  go_wp2_with fail
  refine (B1.out x _ hx5 hT5).mono ?_
  rintro e w6 ⟨rfl, hB6⟩
  have hB06 := hB05.trans (hB6.mono hB05.size)
  have hx6 := hx5.below hB6
  have hy6 := hy5.below hB6
  have hz6 := hz.below hB6
  have hT6 := hT5.below hB6
  clear hx5 hy5 hz hT5 hB6 hB05
  go_wp2_with fail
  refine (L2.out _ hT6).mono ?_
  rintro e w7 ⟨hB7, hres⟩
  have hB07 := hB06.trans (hB7.mono hB06.size)
  have hx7 := hx6.below hB7
  have hy7 := hy6.below hB7
  have hz7 := hz6.below hB7
  have hT7 := hT6.below hB7
  have hsame := beq_same26 I
  have HRES : ∃ v k, e = .returned (.tuple #[v, .int .i64 k]) ∧ (((k == 0) = true ∧ (I.toList == J.toList) = true) ∨ ((k == 0) = false ∧ (I.toList == J.toList) = false)) := by
    rcases hres with ⟨g, dg, rfl, a1, a2, _, he⟩ | ⟨rfl, hno⟩ | ⟨rfl, u, hu, hne⟩
    · refine ⟨_, _, rfl, .inl ⟨rfl, ?_⟩⟩
      have e1 := HG1.out _ he
      have e2 := HDE.out t dg
      rw [e1, HDE.out] at e2
      subst e2
      rw [HTL.out.2 e1.symm]
      exact beq_same26 J
    · exact absurd HIS.out (hno _)
    · refine ⟨_, _, rfl, .inr ⟨rfl, beq_ne26 (fun e => hne ?_)⟩⟩
      have e1 := HG1.out u hu
      rw [e1, HDE.out]
      exact HTL.out.1 e
  obtain ⟨v, k, rfl, hk⟩ := HRES
  clear hx6 hy6 hz6 hT6 hB7 hB06 hres HG1 L1 L2 H1 H2 HTL HIS
  go_wp2_with fail
  refine (B1.out z _ hz7 hT7).mono ?_
  rintro e w8 ⟨rfl, hB8⟩
  have hB08 := hB07.trans (hB8.mono hB07.size)
  have hx8 := hx7.below hB8
  have hy8 := hy7.below hB8
  have hz8 := hz7.below hB8
  have hT8 := hT7.below hB8
  go_wp2_with fail
  refine (B1.out x _ hx8 hT8).mono ?_
  rintro e w9 ⟨rfl, hB9⟩
  have hB09 := hB08.trans (hB9.mono hB08.size)
  have hx9 := hx8.below hB9
  have hy9 := hy8.below hB9
  have hz9 := hz8.below hB9
  have hT9 := hT8.below hB9
  go_wp2_with fail
  refine (D1.out z _ hz9).mono ?_
  rintro e w' ⟨rfl, rfl⟩
  go_wp2_with fail
  refine (B1.out x _ hx9 hT9).mono ?_
  rintro e wA ⟨rfl, hBA⟩
  have hB0A := hB09.trans (hBA.mono hB09.size)
  have hyA := hy9.below hBA
  have hTA := hT9.below hBA
  rcases hk with ⟨hk1, hk2⟩ | ⟨hk1, hk2⟩
  · go_wp2_with fail
    refine (B2.out y _ hyA hTA).mono ?_
    rintro e wB ⟨rfl, hBB⟩
    have hB0B := hB0A.trans (hBB.mono hB0A.size)
    go_wp2_with fail
    go_ret
    exact ⟨by first | rfl | simp, hB0B⟩
  · go_wp2_with fail
    refine (B2.out y _ hyA hTA).mono ?_
    rintro e wB ⟨rfl, hBB⟩
    have hB0B := hB0A.trans (hBB.mono hB0A.size)
    go_wp2_with fail
    go_ret
    exact ⟨by first | rfl | simp, hB0B⟩
theorem lawLoadBack_any (s t : ByteArray) (n : Nat) (w : World) (hn : n < 65536) (hT : Tab w) :
    Calls Tryz.prog 6 #[.string s, .string t, .int .u16 (n : Nat)] w fun e w' => e = .returned (.bool true) ∧ Below w.heap.size w w' := by
  rcases Nat.lt_or_ge 400 s.size with h | h
  · exact lawLoadBack_long s t n w (.inl h)
  · rcases Nat.lt_or_ge 400 t.size with h2 | h2
    · exact lawLoadBack_long s t n w (.inr h2)
    · exact lawLoadBack_main s t n w h h2 hn hT
end Go.Proofs.YtgpbpgpolpakjaaGreatDoor
