/- Walks: the reference's row of an index; SemiLoads; SemiBack. -/
import Derived.Test.YtgpbpgpolpakjaaGreatDoorSemiX
import Derived.Test.YtgpbpgpolpakjaaGreatDoorLawSemiP
import Derived.Test.YtgpbpgpolpakjaaGreatDoorLawFanoI
set_option linter.unusedVariables false
set_option linter.unusedSimpArgs false
set_option maxRecDepth 100000
namespace Go.Proofs.YtgpbpgpolpakjaaGreatDoor
open Go.RowKit Go.Shelf L

/-- The balanced row behind the sequence is there. -/
def RowOk (l : List UInt8) : Prop :=
  8 ≤ l.length ∧ valL l ≤ l.length - 8 ∧ goodL (l.drop (8 + valL l)) ∧ bal (bitAt (bitsL (l.drop (8 + valL l)) (valL (l.drop (8 + valL l))))) (bitsL (l.drop (8 + valL l)) (valL (l.drop (8 + valL l)))).length = true
def RowPost14 (t : ByteArray) (w : World) (e : Ending) (w' : World) : Prop :=
  Below w.heap.size w w' ∧ ∃ v q ok, e = .returned (.tuple #[v, .string q, .bool ok]) ∧ (ok = true ↔ RowOk t.data.toList) ∧ (ok = true → q = t.extract 8 (8 + valL t.data.toList))

set_option maxHeartbeats 4000000 in
theorem refRow14_any (t : ByteArray) (w : World) (hs : t.size ≤ 100000) :
    Calls Tryz.prog 13 #[.string t] w (RowPost14 t w) := by
  have hsz : t.data.toList.length = t.size := by rw [Array.length_toList]; rfl
  have HF := hid (show ∀ w' v q, Below w.heap.size w w' → ¬ RowOk t.data.toList → RowPost14 t w (.returned (.tuple #[v, .string q, .bool false])) w' from fun w' v q h1 h2 => ⟨h1, v, q, false, rfl, ⟨fun h => (by cases h), fun h => absurd h h2⟩, fun h => (by cases h)⟩)
  have HY := hid (show ∀ w' v, Below w.heap.size w w' → RowOk t.data.toList → RowPost14 t w (.returned (.tuple #[v, .string (t.extract 8 (8 + valL t.data.toList)), .bool true])) w' from fun w' v h1 h2 => ⟨h1, v, _, true, rfl, ⟨fun _ => h2, fun _ => rfl⟩, fun _ => rfl⟩)
  have HS := hid hsz
  by_cases h8 : t.size < 8
  · have h8I : (t.size : Int) < 8 := by omega
    have HB := hid (show ¬ RowOk t.data.toList from fun h => by have := h.1; omega)
    go_enter Tryz.func13, Tryz.ntmps13
    go_wp2_with fail
    go_ret3
    exact HF.out _ _ _ (Below.refl _ _) HB.out
  have h8I : ¬ (t.size : Int) < 8 := by omega
  have HV := hid (L.valL_lt t.data.toList)
  obtain ⟨b, hbb⟩ : ∃ b, b = t.extract (8 + valL t.data.toList) t.size := ⟨_, rfl⟩
  have HB1 := hid (show RowOk t.data.toList ↔ (valL t.data.toList ≤ t.size - 8 ∧ goodL b.data.toList ∧ bal (bitAt (bitsL b.data.toList (valL b.data.toList))) (bitsL b.data.toList (valL b.data.toList)).length = true) from by
    have hbl : b.data.toList = t.data.toList.drop (8 + valL t.data.toList) := by
      rw [hbb, ByteArray.data_extract, Array.toList_extract, List.extract_eq_take_drop]
      exact List.take_of_length_le (by rw [List.length_drop, hsz]; exact Nat.le_refl _)
    unfold RowOk
    rw [← hbl, hsz]
    constructor
    · rintro ⟨_, h⟩; exact h
    · intro h; exact ⟨by omega, h⟩)
  have hbs : b.size ≤ 100000 := by rw [hbb, ByteArray.size_extract]; omega
  have HO := hid (fun W => refOf_any b W hbs)
  have HBA := hid (fun A c bs W hW hn => refBalanced_any A c bs W hW hn)
  clear hsz
  go_enter Tryz.func13, Tryz.ntmps13
  go_wp2_with fail
  go_loop [5, 6] (fun n i => ∃ k : Nat, k ≤ 8 ∧ i = .int .i64 ((k : Int) - 1) ∧ n = .int .i64 (valL t.data.toList / 256 ^ k : Nat)) (fun _ i => (intOf i + 1).toNat)
  case atStart => exact ⟨8, by omega, rfl, by rw [Nat.div_eq_of_lt HV.out]; rfl⟩
  case round =>
    obtain ⟨k, hk, rfl, rfl⟩ := hrel
    rcases Nat.eq_zero_or_pos k with h0 | h0
    · subst h0
      rw [Nat.pow_zero, Nat.div_one]
      have hn64 := HV.out
      generalize valL t.data.toList = n at *
      by_cases hle : n ≤ t.size - 8
      · have hbI : ¬ (t.size : Int) - 8 < (n : Int) := by omega
        have r2 : IntKind.i64.wrap (8 + (n : Int)) = 8 + (n : Int) := by rw [IntKind.wrap_i64]; omega
        have r3 : (0 : Int) ≤ 8 + (n : Int) := by omega
        have r4 : (8 + (n : Int)).toNat = 8 + n := by omega
        have r5 : 8 + (n : Int) ≤ (t.size : Int) := by omega
        have r6 : (8 : Int) ≤ 8 + (n : Int) := by omega
        go_wp2_with fail
        rw [← hbb]
        refine (HO.out _).mono ?_
        rintro e w1 ⟨hB1, ⟨hgood, A, c, rfl, hl⟩ | ⟨hbad, v, rfl⟩⟩
        case inr =>
          have HN := hid (show ¬ RowOk t.data.toList from fun h => hbad (HB1.out.1 h).2.1)
          clear hbb
          go_wp2_with fail
          go_quiet (fail)
          go_wp2_with fail
          go_ret3
          exact HF.out _ _ _ (below_drewN hB1 _) HN.out
        have hRl : (bitsL b.data.toList (valL b.data.toList)).length ≤ 4294967296 := by rw [bitsL_length]; exact hgood.2.1
        have HB2 := hid (show RowOk t.data.toList ↔ bal (bitAt (bitsL b.data.toList (valL b.data.toList))) (bitsL b.data.toList (valL b.data.toList)).length = true from HB1.out.trans ⟨fun h => h.2.2, fun h => ⟨hle, hgood, h⟩⟩)
        have HG := hid (fun W hW => HBA.out A c (bitsL b.data.toList (valL b.data.toList)) W hW hRl)
        clear HBA hRl HB1 hgood HO hbs
        generalize bitsL b.data.toList (valL b.data.toList) = R at *
        clear hbb
        cases hbal : bal (bitAt R) R.length with
        | false =>
          rw [hbal] at HG HB2
          have HN := hid (show ¬ RowOk t.data.toList from fun h => by have := HB2.out.1 h; cases this)
          clear hbal
          go_wp2_with fail
          go_quiet ((go_at_call 41; exact quiet_left (HG.out _ (by exact hl))))
          go_wp2_with fail
          go_ret3
          exact HF.out _ _ _ (below_drewN hB1 _) HN.out
        | true =>
          rw [hbal] at HG HB2
          have HN := hid (HB2.out.2 rfl)
          clear hbal
          go_wp2_with fail
          go_quiet ((go_at_call 41; exact quiet_left (HG.out _ (by exact hl))))
          go_wp2_with fail
          go_ret3
          exact HY.out _ _ (below_drewN hB1 _) HN.out
      · have hbI : (t.size : Int) - 8 < (n : Int) := by omega
        have HN := hid (show ¬ RowOk t.data.toList from fun h => hle (HB1.out.1 h).1)
        clear hbb hn64
        go_wp2_with fail
        go_ret3
        exact HF.out _ _ _ (Below.refl _ _) HN.out
    · obtain ⟨j, rfl⟩ : ∃ j, k = j + 1 := ⟨k - 1, by omega⟩
      have HD := hid (L.val_div t.data.toList j (by omega) (by have := HS.out; omega))
      have hjs : j < t.size := by omega
      rw [show ((j + 1 : Nat) : Int) - 1 = (j : Int) from by omega]
      have hle : valL t.data.toList / 256 ^ (j + 1) ≤ valL t.data.toList := Nat.div_le_self _ _
      have HLE := hid hle
      clear hle
      have hb : (t[j].toNat : Int) < 256 := by have := UInt8.toNat_lt t[j]; omega
      generalize hq : valL t.data.toList / 256 ^ (j + 1) = q at *
      have HQ := hid hq
      clear hq hbb
      rcases Nat.lt_or_ge t.size q with hlt | hge
      · have hlt' : (t.size : Int) < (q : Int) := by omega
        have HN := hid (show ¬ RowOk t.data.toList from fun h => by have := (HB1.out.1 h).1; have := HLE.out; omega)
        go_wp2_with fail
        go_ret3
        exact HF.out _ _ _ (Below.refl _ _) HN.out
      · have hge' : (q : Int) ≤ (t.size : Int) := by omega
        go_wp2_with fail
        go_round
        case rel => exact ⟨j, by omega, by simp, by rw [HD.out]; simp; rfl⟩
        case measure => simp [intOf] <;> omega

theorem bytes_ne {s t : ByteArray} (h : s ≠ t) : (s.toList == t.toList) = false := by
  rw [beq_eq_false_iff_ne]
  intro e
  rw [ByteArray.toList_eq, ByteArray.toList_eq] at e
  exact h (bytes_ext e)
/-- Good bytes are a sequence's, with a balanced row behind it. -/
theorem L.good_parts {t : ByteArray} (hr : RowOk t.data.toList) : (∃ m B R, GoodIdx t.data.toList m B R) ↔ (goodL (t.extract 8 (8 + valL t.data.toList)).data.toList ∧ ∃ m B, IsSeq (bitsL (t.extract 8 (8 + valL t.data.toList)).data.toList (valL (t.extract 8 (8 + valL t.data.toList)).data.toList)) m B) := by
  have hal : (t.extract 8 (8 + valL t.data.toList)).data.toList = (t.data.toList.drop 8).take (valL t.data.toList) := by
    rw [ByteArray.data_extract, Array.toList_extract, List.extract_eq_take_drop, show 8 + valL t.data.toList - 8 = valL t.data.toList from by omega]
  rw [hal]
  constructor
  · rintro ⟨m, B, R, h⟩
    exact ⟨h.2.2.1, m, B, h.2.2.2.1⟩
  · rintro ⟨h1, m, B, h2⟩
    exact ⟨m, B, _, hr.1, hr.2.1, h1, h2, hr.2.2.1, rfl, hr.2.2.2⟩
theorem L.GoodIdx.row {l : List UInt8} {m : List Nat} {B : Nat} {R : List Bool} (h : GoodIdx l m B R) : RowOk l := by
  obtain ⟨h1, h2, h3, h4, h5, rfl, h7⟩ := h
  exact ⟨h1, h2, h5, h7⟩

set_option maxHeartbeats 4000000 in
theorem lawSemiLoads_long (s t : ByteArray) (w : World) (hs : 400 < s.size ∨ 900 < t.size) (hT : Tab w) :
    Calls Tryz.prog 4 #[.string s, .string t] w fun e w' => e = .returned (.bool true) ∧ Below w.heap.size w w' := by
  by_cases h1 : 400 < s.size
  · have hsI : (400 : Int) < (s.size : Int) := by omega
    go_enter Tryz.func4, Tryz.ntmps4
    go_wp2_with fail
    refine (awake14 _).mono ?_
    rintro e w1 ⟨rfl, hB1⟩
    go_wp2_with fail
    refine (awake14 _).mono ?_
    rintro e w2 ⟨rfl, hB2⟩
    go_wp2_with fail
    go_ret
    exact ⟨rfl, hB1.trans (hB2.mono hB1.size)⟩
  · have hsI : ¬ ((400 : Int) < (s.size : Int)) := by omega
    have htI : (900 : Int) < (t.size : Int) := by omega
    go_enter Tryz.func4, Tryz.ntmps4
    go_wp2_with fail
    refine (awake14 _).mono ?_
    rintro e w1 ⟨rfl, hB1⟩
    go_wp2_with fail
    refine (awake14 _).mono ?_
    rintro e w2 ⟨rfl, hB2⟩
    go_wp2_with fail
    go_ret
    exact ⟨rfl, hB1.trans (hB2.mono hB1.size)⟩

set_option maxHeartbeats 8000000 in
theorem lawSemiLoads_main (s t : ByteArray) (w : World) (hs : s.size ≤ 400) (ht : t.size ≤ 900) (hT : Tab w) :
    Calls Tryz.prog 4 #[.string s, .string t] w fun e w' => e = .returned (.bool true) ∧ Below w.heap.size w w' := by
  have hsI : ¬ ((400 : Int) < (s.size : Int)) := by omega
  have htI : ¬ ((900 : Int) < (t.size : Int)) := by omega
  have HE := hid (fun W => refError14_any s W)
  rcases Nat.eq_zero_or_pos (lookN (nb s)) with h | h
  case inr =>
    have HM := hid (fun W => semiLoad_not s t W (by omega))
    have hk0 : ((lookN (nb s) : Nat) : Int) ≠ 0 := by omega
    clear hs ht h
    generalize lookN (nb s) = k at *
    have hkb : ((k : Int) != 0) = true := by rw [bne_iff_ne]; exact hk0
    go_enter Tryz.func4, Tryz.ntmps4
    go_wp2_with fail
    refine (awake14 _).mono ?_
    rintro e w1 ⟨rfl, hB1⟩
    go_wp2_with fail
    refine (HM.out _).mono ?_
    rintro e w2 ⟨rfl, hB2⟩
    have hB12 := hB1.trans (hB2.mono hB1.size)
    go_wp2_with fail
    refine (HE.out _).mono ?_
    rintro e w3 ⟨rfl, hB3⟩
    have hB13 := hB12.trans (hB3.mono hB12.size)
    go_wp2_with fail
    go_ret
    exact ⟨by first | rfl | simp, hB13⟩
  have hpl : (places (nb s)).length ≤ 10000 := by rw [places_length]; have := mks_length (nb s); rw [nb_length] at this; omega
  have HL := hid (fun W hW => semiLoad_any s t W h hpl hW (by omega) (by omega))
  have HR := hid (fun W => refRow14_any t W (by omega))
  have HIS := hid (show ∀ q W, q = t.extract 8 (8 + valL t.data.toList) → Calls Tryz.prog 14 #[.string q] W (IsPost q.data.toList W) from fun q W e => isSeq_any q W (by rw [e, ByteArray.size_extract]; omega))
  have HB := hid (fun W => refIdxBytes_any s W (by omega))
  have HI := hid (fun g W hW hTW => is14_any g s W hW hTW (by omega))
  have HGD := hid (show ∃ m B R, GoodIdx (idxS (nb s)).data.toList m B R from ⟨_, _, _, idxS_good (look_text h).1 (look_text h).2 hpl⟩)
  rw [h] at HE
  clear hpl h hs ht
  unfold LoadPost at HL
  generalize idxS (nb s) = I at *
  go_enter Tryz.func4, Tryz.ntmps4
  go_wp2_with fail
  refine (awake14 _).mono ?_
  rintro e w1 ⟨rfl, hB1⟩
  go_wp2_with fail
  refine (HL.out _ (hT.below hB1)).mono ?_
  rintro e w2 ⟨hB2, hres⟩
  have hB12 := hB1.trans (hB2.mono hB1.size)
  clear hB1 hB2 HL
  have HPT := hid (fun hr => good_parts (t := t) hr)
  rcases hres with ⟨g, rfl, hg, he⟩ | ⟨rfl, hno⟩ | ⟨rfl, hyes, hne⟩
  · have hyes : ∃ m B R, GoodIdx t.data.toList m B R := by rw [he]; exact HGD.out
    have hro : RowOk t.data.toList := by obtain ⟨m, B, R, h⟩ := hyes; exact h.row
    have HQ := hid ((HPT.out hro).1 hyes)
    have HRO := hid hro
    clear hyes hro HPT HGD
    subst he
    go_wp2_with fail
    refine (HE.out _).mono ?_
    rintro e w3 ⟨rfl, hB3⟩
    have hB13 := hB12.trans (hB3.mono hB12.size)
    go_wp2_with fail
    refine (HR.out _).mono ?_
    rintro e w4 ⟨hB4, v, q, ok, rfl, hok, hq⟩
    obtain rfl := hok.2 HRO.out
    have hqe := hid (hq rfl)
    have hB14 := hB13.trans (hB4.mono hB13.size)
    have HIQ := hid (HIS.out q)
    clear hok hq
    go_wp2_with fail
    with_reducible refine (HIQ.out _ hqe.out).mono ?_
    rintro e w5 ⟨ok, rfl, hB5, hok⟩
    have hB15 := hB14.trans (hB5.mono hB14.size)
    obtain rfl := hok.2 (by rw [hqe.out]; exact HQ.out)
    clear hok hqe
    go_wp2_with fail
    refine (HB.out _).mono ?_
    rintro e w6 ⟨rfl, hB6⟩
    have hB16 := hB15.trans (hB6.mono hB15.size)
    have hg6 := (((hg.below hB3).below hB4).below hB5).below hB6
    go_wp2_with fail
    refine (HI.out _ _ hg6 (hT.below hB16)).mono ?_
    rintro e w7 ⟨rfl, hB7⟩
    go_wp2_with fail
    go_ret
    exact ⟨by first | rfl | simp, hB16.trans (hB7.mono hB16.size)⟩
  · have HNO := hid hno
    clear hno HGD
    go_wp2_with fail
    refine (HE.out _).mono ?_
    rintro e w3 ⟨rfl, hB3⟩
    have hB13 := hB12.trans (hB3.mono hB12.size)
    go_wp2_with fail
    refine (HR.out _).mono ?_
    rintro e w4 ⟨hB4, v, q, ok, rfl, hok, hq⟩
    have hB14 := hB13.trans (hB4.mono hB13.size)
    cases ok with
    | false =>
      clear hok hq
      go_wp2_with fail
      go_ret
      exact ⟨by first | rfl | simp, hB14⟩
    | true =>
      have hqe := hid (hq rfl)
      have HQ := hid (show ¬ (goodL q.data.toList ∧ ∃ m B, IsSeq (bitsL q.data.toList (valL q.data.toList)) m B) from fun h => by
        rw [hqe.out] at h
        obtain ⟨m, B, R, h⟩ := (HPT.out (hok.1 rfl)).2 h
        exact HNO.out m B R h)
      have HIQ := hid (HIS.out q)
      clear hok hq HPT
      go_wp2_with fail
      with_reducible refine (HIQ.out _ hqe.out).mono ?_
      rintro e w5 ⟨ok, rfl, hB5, hok⟩
      have hB15 := hB14.trans (hB5.mono hB14.size)
      cases ok with
      | true => exact absurd (hok.1 rfl) HQ.out
      | false =>
        clear hok hqe
        go_wp2_with fail
        go_ret
        exact ⟨by first | rfl | simp, hB15⟩
  · have hro : RowOk t.data.toList := by obtain ⟨m, B, R, h⟩ := hyes; exact h.row
    have HQ := hid ((HPT.out hro).1 hyes)
    have HRO := hid hro
    have hneb : (t.toList == I.toList) = false := bytes_ne hne
    have hnec : (t.toList != I.toList) = true := by unfold bne; rw [hneb]; rfl
    clear hyes hro HPT HGD
    go_wp2_with fail
    refine (HE.out _).mono ?_
    rintro e w3 ⟨rfl, hB3⟩
    have hB13 := hB12.trans (hB3.mono hB12.size)
    go_wp2_with fail
    refine (HR.out _).mono ?_
    rintro e w4 ⟨hB4, v, q, ok, rfl, hok, hq⟩
    obtain rfl := hok.2 HRO.out
    have hqe := hid (hq rfl)
    have hB14 := hB13.trans (hB4.mono hB13.size)
    have HIQ := hid (HIS.out q)
    clear hok hq
    go_wp2_with fail
    with_reducible refine (HIQ.out _ hqe.out).mono ?_
    rintro e w5 ⟨ok, rfl, hB5, hok⟩
    have hB15 := hB14.trans (hB5.mono hB14.size)
    obtain rfl := hok.2 (by rw [hqe.out]; exact HQ.out)
    clear hok hqe
    go_wp2_with fail
    refine (HB.out _).mono ?_
    rintro e w6 ⟨rfl, hB6⟩
    have hB16 := hB15.trans (hB6.mono hB15.size)
    go_wp2_with fail
    go_ret
    exact ⟨by first | rfl | simp, hB16⟩
theorem lawSemiLoads_any (s t : ByteArray) (w : World) (hT : Tab w) :
    Calls Tryz.prog 4 #[.string s, .string t] w fun e w' => e = .returned (.bool true) ∧ Below w.heap.size w w' := by
  rcases Nat.lt_or_ge 400 s.size with h | h
  · exact lawSemiLoads_long s t w (.inl h) hT
  · rcases Nat.lt_or_ge 900 t.size with h2 | h2
    · exact lawSemiLoads_long s t w (.inr h2) hT
    · exact lawSemiLoads_main s t w h h2 hT
end Go.Proofs.YtgpbpgpolpakjaaGreatDoor
