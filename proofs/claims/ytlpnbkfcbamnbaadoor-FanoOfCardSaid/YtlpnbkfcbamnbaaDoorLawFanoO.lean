/- Walks: the law FanoOf returns true. -/
import Derived.Test.YtlpnbkfcbamnbaaDoorLawFanoI
import Derived.Test.YtlpnbkfcbamnbaaDoorRefFano
import Derived.Test.YtlpnbkfcbamnbaaDoorFanoR
set_option linter.unusedVariables false
set_option linter.unusedSimpArgs false
set_option maxRecDepth 100000
namespace Go.Proofs.YtlpnbkfcbamnbaaDoor
open Go.RowKit Go.Shelf L

set_option maxHeartbeats 2000000 in
theorem lawFanoOf_long (t : ByteArray) (w : World) (hn : 400 < t.size) (hT : Tab w) :
    Calls Tryd.prog 10 #[.string t] w fun e w' => e = .returned (.bool true) ∧ Below w.heap.size w w' := by
  have h1 : decide ((t.size : Int) > 400) = true := decide_eq_true (by omega)
  have h1N : (400 : Int) < (t.size : Int) := by omega
  go_enter Tryd.func10, Tryd.ntmps10
  go_wp2_with fail
  refine (awake5 _ hT).mono ?_
  rintro e w1 ⟨rfl, hB1⟩
  go_wp2_with fail
  refine (awake5 _ (hT.below hB1)).mono ?_
  rintro e w2 ⟨rfl, hB2⟩
  go_wp2_with fail
  go_ret
  exact ⟨rfl, hB1.trans (hB2.mono hB1.size)⟩

theorem back_bytes (t : ByteArray) : (⟨t.data.toList.toArray⟩ : ByteArray) = t := by cases t; simp
/-- How many numbers a sequence of few bytes has. -/
theorem L.IsSeq.short {l : List UInt8} {m : List Nat} {B : Nat} (hg : goodL l) (hl : l.length ≤ 400) (h : IsSeq (bitsL l (valL l)) m B) : m.length ≤ 3136 := by
  have p := h.parts.2.2.1
  rw [bitsL_length] at p
  have := hg.2.2.1
  unfold nwords at this
  generalize (B - 1) / 2 ^ wd m.length B = q at p
  generalize m.length * wd m.length B = r at p
  omega

set_option maxHeartbeats 4000000 in
theorem lawFanoOf_true (t : ByteArray) (w : World) (hs : t.size ≤ 400) (hT : Tab w) :
    Calls Tryd.prog 10 #[.string t] w fun e w' => e = .returned (.bool true) ∧ Below w.heap.size w w' := by
  have h1 : decide ((t.size : Int) > 400) = false := decide_eq_false (by omega)
  have h1N : ¬ 400 < t.size := by omega
  have HOF := hid (fun W hW => fOf_any t W (by omega) hW)
  have HIS := hid (fun W => isSeq_any t W (by omega))
  have hlen : t.data.toList.length = t.size := by rw [Array.length_toList]; rfl
  go_enter Tryd.func10, Tryd.ntmps10
  go_wp2_with fail
  refine (awake5 _ hT).mono ?_
  rintro e w1 ⟨rfl, hB1⟩
  have hz1 := hB1.size
  go_wp2_with fail
  refine (HOF.out _ (hT.below hB1)).mono ?_
  rintro e w2 ⟨hB2, ⟨s, m, B, rfl, hsq, hfw, hgood, hseq⟩ | ⟨rfl, hno⟩⟩
  case inr =>
    have hBb := hB1.trans (hB2.mono hz1)
    have hzb := hBb.size
    have HNO := hid hno
    clear hno
    go_wp2_with fail
    refine (HIS.out _).mono ?_
    rintro e w3 ⟨ok, rfl, hB3, hok⟩
    cases ok with
    | true => obtain ⟨g, m, B, q⟩ := hok.1 rfl; exact absurd q (HNO.out g m B)
    | false =>
      clear hok
      go_wp2_with fail
      go_ret
      exact ⟨rfl, hBb.trans (hB3.mono hzb)⟩
  have hBb := hB1.trans (hB2.mono hz1)
  have hzb := hBb.size
  have hTb := hT.below hBb
  have hml := hseq.short hgood (by omega)
  have hr := hseq.1
  have HY := hid (show ∀ W, SeqAt W s m B → Tab W → Calls Tryd.prog 37 #[.pointer (some ⟨s, 0, none⟩)] W fun e w' => e = .returned (.string t) ∧ Below W.heap.size W w' from fun W h1 h2 => by
    have := seqBytes_any s m B W h1 h2 hr hfw
    rwa [← hseq.2.2, good_bytes hgood, back_bytes] at this)
  have HRB := hid (show ∀ W A c, Lst W A (natCells m) → Calls Tryd.prog 39 #[.slice A m.length c, .int .i64 (B : Nat)] W fun e w' => e = .returned (.string t) ∧ Below W.heap.size W w' from fun W A c h1 => by
    have := refSeqBytes_any A c m B W h1 hr hfw
    rwa [← hseq.2.2, good_bytes hgood, back_bytes] at this)
  have HRI := hid (fun A c W hW => refRight_yes (A := A) (c := c) hr (by omega) W hW)
  have HIT := hid (show ∀ W, Calls Tryd.prog 42 #[.string t] W fun e w' => e = .returned (.bool true) ∧ Below W.heap.size W w' from fun W => by
    refine (HIS.out W).mono ?_
    rintro e w' ⟨ok, rfl, hB, hok⟩
    have : ok = true := hok.2 ⟨hgood, m, B, hseq⟩
    subst this
    exact ⟨rfl, hB⟩)
  have HG := hid (fun i (hi : i < m.length) W (hW : Below w2.heap.size w2 W) => sGet_in s m B i W (hsq.below hW) (hTb.below hW) hr hfw hi)
  have HLN := hid (fun W (hW : Below w2.heap.size w2 W) => seqLen_any s m B W (hsq.below hW))
  have HBD := hid (fun W (hW : Below w2.heap.size w2 W) => seqBound_any s m B W (hsq.below hW))
  have HSQ := hid (fun W (hW : Below w2.heap.size w2 W) => hsq.below hW)
  have HTB := hid (fun W (hW : Below w2.heap.size w2 W) => hTb.below hW)
  clear hsq hfw hgood hseq hr HOF HIS hlen hTb
  obtain ⟨i0, hi0, iz0, iz1, iz2⟩ := info_parts Tryd.infoInt
  go_wp2_with fail
  go_loopw [5, 6] (fun lv iv wr => ∃ (i : Nat) (A : Option Addr) (c : Nat), i ≤ m.length ∧ iv = .int .i64 (i : Nat) ∧ lv = .slice A i c ∧ wr.ownsRow w2.heap.size 3 1 (.slice A i c) i (natCells (m.take i)) ∧ Below w2.heap.size w2 wr) (fun _ iv _ => m.length - (intOf iv).toNat)
  case atStart => exact ⟨0, none, 0, by omega, rfl, rfl, World.ownsRow_nil _ _ _ _, Below.refl _ _⟩
  case round =>
    obtain ⟨i, A, c, hi, rfl, rfl, hown, hB⟩ := hrel
    have hzr := hB.size
    have hiw := wrap_one i (by omega)
    rcases Nat.lt_or_ge i m.length with hlt | hge
    · have hii : (i : Int) < (m.length : Int) := by omega
      have hi4 : (i : Int) < 4000 := by omega
      have hi4N : i < 4000 := by omega
      have hGi := hid (HG.out i hlt _ hB)
      have htk : natCells (m.take i) ++ [.int .i64 (m[i] : Nat)] = natCells (m.take (i + 1)) := by rw [List.take_succ_eq_append_getElem hlt, natCells_append]; rfl
      have HTK := hid htk
      clear htk
      generalize m[i] = y at *
      go_wp2_with fail
      refine (HLN.out _ hB).mono ?_
      rintro e w' ⟨rfl, rfl⟩
      go_wp2_with fail
      refine (hGi.out).mono ?_
      rintro e w4 ⟨rfl, hB4⟩
      have hBc := hB.trans (hB4.mono hzr)
      have hzc := hBc.size
      have hown4 := own_only hown (Only.of_below (S := fun _ => False) hB4) (fun _ _ => id)
      clear hGi hown
      go_wp2_with (first
        | (at_builtin
           go_must (refine wpList_append_more _ rfl (.tmp 51) (.tmp 53) _ rfl w2.heap.size 3 i0 _ 8 Tryd.underlying22 hi0 iz0 iz1 iz2 rfl (.slice A i c) i (natCells (m.take i)) rfl ?hown (some ⟨w4.heap.size, 0, none⟩) 1 1 [.int .i64 (y : Nat)] rfl ?hls rfl ?h1 ?h63 ?hby ?hbs _ rfl ?_)
           go_must (case hown => exact hown4.alloc _)
           go_must (case hls => exact lst_one _ _ _ _ (by simp))
           go_must (case h1 => simp [Value.oneCell'])
           go_must (case h63 => simp only [maxLen]; omega)
           go_must (case hby => omega)
           go_must (case hbs => simp; omega)
           intro A5 c5 w5 hown5 hgr5 hat5)
        | fail)
      have hB5 := (hBc.alloc hzc _).grown hgr5 (by simp; omega) (fun j hj => (hown4.lt j hj).1)
      rw [HTK.out] at hown5
      go_roundw
      case rel => exact ⟨i + 1, A5, c5, by omega, by go_num, rfl, hown5, hB5⟩
      case measure => simp [intOf]; omega
    · obtain rfl : i = m.length := by omega
      have hki : ¬ ((m.length : Int) < (m.length : Int)) := by omega
      have hBc := hBb.trans (hB.mono hzb)
      have hzc := hBc.size
      rw [List.take_length] at hown
      have hl := own_lst hown
      clear hown
      go_wp2_with fail
      refine (HLN.out _ hB).mono ?_
      rintro e w' ⟨rfl, rfl⟩
      go_wp2_with fail
      refine (HY.out _ (HSQ.out _ hB) (HTB.out _ hB)).mono ?_
      rintro e w4 ⟨rfl, hB4⟩
      have hl4 := hl.below hB4
      have hBd := hBc.trans (hB4.mono hzc)
      have hzd := hBd.size
      have hB24 := hB.trans (hB4.mono hzr)
      have hz24 := hB24.size
      go_wp2_with fail
      refine (HBD.out _ hB24).mono ?_
      rintro e w' ⟨rfl, rfl⟩
      go_wp2_with fail
      refine (HRI.out _ _ _ hl4).mono ?_
      rintro e w5 ⟨rfl, hB5⟩
      have hl5 := hl4.below hB5
      have hBe := hBd.trans (hB5.mono hzd)
      have hze := hBe.size
      have hB25 := hB24.trans (hB5.mono hz24)
      go_wp2_with fail
      refine (HBD.out _ hB25).mono ?_
      rintro e w' ⟨rfl, rfl⟩
      go_wp2_with fail
      refine (HRB.out _ _ _ hl5).mono ?_
      rintro e w6 ⟨rfl, hB6⟩
      have hBf := hBe.trans (hB6.mono hze)
      have hzf := hBf.size
      go_wp2_with fail
      refine (HIT.out _).mono ?_
      rintro e w7 ⟨rfl, hB7⟩
      go_wp2_with fail
      go_ret
      exact ⟨by first | rfl | simp, hBf.trans (hB7.mono hzf)⟩

theorem lawFanoOf_any (t : ByteArray) (w : World) (hT : Tab w) :
    Calls Tryd.prog 10 #[.string t] w fun e w' => e = .returned (.bool true) ∧ Below w.heap.size w w' := by
  rcases Nat.lt_or_ge 400 t.size with h | h
  · exact lawFanoOf_long t w h hT
  · exact lawFanoOf_true t w h hT
end Go.Proofs.YtlpnbkfcbamnbaaDoor
