/- Walks: the law ParenBalanced returns true. -/
import Derived.Test.YtdhokioiloggeaaLawParen
set_option linter.unusedVariables false
set_option linter.unusedSimpArgs false
set_option maxRecDepth 100000
namespace Go.Proofs.Ytdhokioiloggeaa
open Go.RowKit L

set_option maxHeartbeats 1000000 in
theorem lawParenBalanced_long (A : Option Addr) (n c : Nat) (w : World) (hn : 3000 < n) :
    Calls Try.prog 15 #[.slice A n c] w fun e w' => e = .returned (.bool true) ∧ Below w.heap.size w w' := by
  have h1 : (3000 : Int) < (n : Int) := by omega
  go_enter Try.func15, Try.ntmps15
  go_wp2_with fail
  refine (awake6 _).mono ?_
  rintro e w1 ⟨rfl, hB1⟩
  go_wp2_with fail
  refine (awake6 _).mono ?_
  rintro e w2 ⟨rfl, hB2⟩
  go_wp2
  go_ret
  exact ⟨rfl, hB1.trans (hB2.mono hB1.size)⟩

theorem bitAt_cons (b : Bool) (l : List Bool) (i : Nat) : bitAt (b :: l) (i + 1) = bitAt l i := by unfold bitAt; simp
theorem bal_wrapped (bs : List Bool) (h : bal (bitAt bs) bs.length = true) : bal (bitAt ([true] ++ bs ++ [false])) ([true] ++ bs ++ [false]).length = true := by
  have e : ([true] ++ bs ++ [false]).length = bs.length + 2 := by simp
  rw [e]
  refine bal_wrap (bitAt bs) _ bs.length h ?_ (fun i hi => ?_) ?_
  · simp [bitAt]
  · show bitAt (true :: (bs ++ [false])) (i + 1) = _
    rw [bitAt_cons]; unfold bitAt; rw [List.getElem?_append_left hi]
  · show bitAt (true :: (bs ++ [false])) (bs.length + 1) = _
    rw [bitAt_cons]; unfold bitAt; simp

set_option maxHeartbeats 4000000 in
theorem lawParenBalanced_true (A : Option Addr) (c : Nat) (bs : List Bool) (w : World) (hl : Lst w A (bools bs)) (hn : bs.length ≤ 3000) :
    Calls Try.prog 15 #[.slice A bs.length c] w fun e w' => e = .returned (.bool true) ∧ Below w.heap.size w w' := by
  obtain ⟨i0, hi0, iz0, iz1, iz2⟩ := info_parts Try.infoBool
  have hd3 : decide ((3000 : Int) < (bs.length : Int)) = false := by rw [decide_eq_false_iff_not]; omega
  have HB := hid (bal_eq bs)
  have HBW := hid (bal_wrapped bs)
  have hlo := lo_bound (sh (bitAt bs) 0) bs.length
  have h0 : held bs.length 0 = 0 := by unfold held; omega
  have h1 : heldTo bs.length 0 (bs.length : Nat) = bs.length := by unfold heldTo held; omega
  have HX := hid (fun g A c W hW => by have := pExcess_any g A c bs 0 (bs.length : Nat) W hW; rw [h0, h1, Nat.sub_zero] at this; exact this)
  have HR := hid (fun g A c W hW => by have := pReach_any g A c bs 0 (bs.length : Nat) W hW; rw [h0, h1, Nat.sub_zero] at this; exact this)
  have HBal := hid (fun g A c W hW => pBalanced_any g A c bs W hW)
  have HRB := hid (fun W hW => refBalanced_any A c bs W hW (by omega))
  clear h0 h1
  have hge := ge_fl (lo (sh (bitAt bs) 0) bs.length) 0 (small_of (by omega) (by omega)) (small_of (by omega) (by omega))
  rw [fl_zero] at hge
  by_cases he : ex (sh (bitAt bs) 0) bs.length = 0
  · have hb : (ex (sh (bitAt bs) 0) bs.length == 0) = true := by rw [beq_iff_eq]; exact he
    have HV : bal (bitAt bs) bs.length = decide (0 ≤ lo (sh (bitAt bs) 0) bs.length) := by rw [HB.out, decide_eq_true he, Bool.true_and]
    by_cases hlo0 : 0 ≤ lo (sh (bitAt bs) 0) bs.length
    · rw [decide_eq_true hlo0] at HV hge
      rw [HV] at HBal HRB
      have hwrap := hid (HBW.out HV)
      clear HB HBW HV
      generalize ex (sh (bitAt bs) 0) bs.length = z at *
      generalize lo (sh (bitAt bs) 0) bs.length = l0 at *
      clear he hlo0
      go_enter Try.func15, Try.ntmps15
      go_wp2_with fail
      refine (awake6 _).mono ?_
      rintro e w1 ⟨rfl, hB1⟩
      have hz1 := hB1.size
      go_wp2_with fail
      refine (made_any A c bs _ (hl.below hB1) (by omega)).mono ?_
      rintro e w3 ⟨g3, A3, c3, rfl, hr3, _, _, hB3⟩
      have hz3 := hB3.size
      have hBa : Below w.heap.size w w3 := hB1.trans (hB3.mono hz1)
      go_wp2_with fail
      refine (HRB.out _ (hl.below hBa)).mono ?_
      rintro e w' ⟨rfl, rfl⟩
      go_wp2_with fail
      refine (HBal.out g3 A3 c3 _ hr3).mono ?_
      rintro e w' ⟨rfl, m1, rfl⟩
      go_wp2_with fail
      refine (HX.out g3 A3 c3 _ (by exact hr3)).mono ?_
      rintro e w' ⟨rfl, m2, rfl⟩
      go_wp2_with fail
      refine (HR.out g3 A3 c3 _ (by exact hr3)).mono ?_
      rintro e w' ⟨rfl, m3, rfl⟩
      have hls := hl.below hBa
      have hzw : w.heap.size ≤ w3.heap.size := hBa.size
      go_wp2_with (first
        | (at_builtin
           refine wpList_append_more _ rfl (.tmp 39) (.tmp 40) _ rfl w.heap.size 4 i0 _ 1 Try.underlying27 hi0 iz0 iz1 iz2 rfl (.slice none 0 0) 0 [] rfl (World.ownsRow_nil _ _ _ _) (some ⟨w3.heap.size, 0, none⟩) 1 1 [.bool true] rfl ?hls rfl ?h1 ?h63 ?hby ?hbs _ rfl ?_
           go_must (case hls => exact lst_one _ _ _ _ (by simp))
           go_must (case h1 => simp [Value.oneCell'])
           go_must (case h63 => simp only [maxLen]; omega)
           go_must (case hby => omega)
           go_must (case hbs => first | omega | (simp; omega))
           intro A4 c4 w4 hown4 hgr4 hat4
           have hB4 : Below w.heap.size w w4 := ((below_drewN hBa _).alloc (by simp; omega) _).grown hgr4 (by simp; omega) (fun j hj => by simp [Value.ownBlock] at hj)
           have hz4 := hB4.size
           clear hgr4 hat4)
        | (at_builtin
           refine wpList_append_more _ rfl (.tmp 42) (.tmp 43) _ rfl w.heap.size 4 i0 _ 1 Try.underlying27 hi0 iz0 iz1 iz2 rfl (.slice A4 (0 + 1) c4) (0 + 1) [.bool true] rfl ?hown A bs.length c (bools bs) rfl ?hls (bools_length _) (bools_one _) ?h63 ?hby ?hbs _ rfl ?_
           go_must (case hown => exact hown4)
           go_must (case hls => exact hl.below hB4)
           go_must (case h63 => simp only [maxLen]; omega)
           go_must (case hby => omega)
           go_must (case hbs => first | omega | (simp; omega))
           intro A5 c5 w5 hown5 hgr5 hat5
           have hB5 : Below w.heap.size w w5 := hB4.grown hgr5 (by omega) (fun j hj => (hown4.lt j hj).1)
           have hz5 := hB5.size
           clear hgr5 hat5)
        | (at_builtin
           refine wpList_append_more _ rfl (.tmp 45) (.tmp 46) _ rfl w.heap.size 4 i0 _ 1 Try.underlying27 hi0 iz0 iz1 iz2 rfl (.slice A5 (0 + 1 + bs.length) c5) (0 + 1 + bs.length) ([.bool true] ++ bools bs) rfl ?hown (some ⟨w5.heap.size, 0, none⟩) 1 1 [.bool false] rfl ?hls rfl ?h1 ?h63 ?hby ?hbs _ rfl ?_
           go_must (case hown => exact hown5.alloc _)
           go_must (case hls => exact lst_one _ _ _ _ (by simp))
           go_must (case h1 => simp [Value.oneCell'])
           go_must (case h63 => simp only [maxLen]; omega)
           go_must (case hby => omega)
           go_must (case hbs => first | omega | (simp; omega))
           intro A6 c6 w6 hown6 hgr6 hat6
           have hB6 : Below w.heap.size w w6 := (hB5.alloc (by omega) _).grown hgr6 (by simp; omega) (fun j hj => (hown5.lt j hj).1)
           have hl6 : Lst w6 A6 (bools ([true] ++ bs ++ [false])) := by have := own_lst hown6; rw [bools_append, bools_append]; exact this
           have hlen : 0 + 1 + bs.length + 1 = ([true] ++ bs ++ [false]).length := by simp; omega
           rw [hlen]
           have hn6 : ([true] ++ bs ++ [false]).length ≤ 3002 := by rw [← hlen]; omega
           clear hgr6 hat6 hown6 hlen
           generalize [true] ++ bs ++ [false] = cs at *)
        | (go_at_call 30
           refine (made_any A6 c6 cs _ hl6 (by omega)).mono ?_
           rintro e w7 ⟨g7, A7, c7, rfl, hr7, _, _, hB7⟩)
        | (go_at_call 53
           refine (pBalanced_any g7 A7 c7 cs _ hr7).mono ?_
           rw [hwrap.out]
           rintro e w' ⟨rfl, m8, rfl⟩))
      go_ret
      exact ⟨rfl, below_drewN (hB6.trans (hB7.mono hB6.size)) _⟩
    · rw [decide_eq_false hlo0] at HV hge
      rw [HV] at HBal HRB
      clear HB HBW HV
      generalize ex (sh (bitAt bs) 0) bs.length = z at *
      generalize lo (sh (bitAt bs) 0) bs.length = l0 at *
      clear he hlo0
      go_enter Try.func15, Try.ntmps15
      go_wp2_with fail
      refine (awake6 _).mono ?_
      rintro e w1 ⟨rfl, hB1⟩
      have hz1 := hB1.size
      go_wp2_with fail
      refine (made_any A c bs _ (hl.below hB1) (by omega)).mono ?_
      rintro e w3 ⟨g3, A3, c3, rfl, hr3, _, _, hB3⟩
      have hz3 := hB3.size
      have hBa : Below w.heap.size w w3 := hB1.trans (hB3.mono hz1)
      go_wp2_with fail
      refine (HRB.out _ (hl.below hBa)).mono ?_
      rintro e w' ⟨rfl, rfl⟩
      go_wp2_with fail
      refine (HBal.out g3 A3 c3 _ hr3).mono ?_
      rintro e w' ⟨rfl, m1, rfl⟩
      go_wp2_with fail
      refine (HX.out g3 A3 c3 _ (by exact hr3)).mono ?_
      rintro e w' ⟨rfl, m2, rfl⟩
      go_wp2_with fail
      refine (HR.out g3 A3 c3 _ (by exact hr3)).mono ?_
      rintro e w' ⟨rfl, m3, rfl⟩
      have hls := hl.below hBa
      have hzw : w.heap.size ≤ w3.heap.size := hBa.size
      go_wp2_with (first
        | (at_builtin
           refine wpList_append_more _ rfl (.tmp 39) (.tmp 40) _ rfl w.heap.size 4 i0 _ 1 Try.underlying27 hi0 iz0 iz1 iz2 rfl (.slice none 0 0) 0 [] rfl (World.ownsRow_nil _ _ _ _) (some ⟨w3.heap.size, 0, none⟩) 1 1 [.bool true] rfl ?hls rfl ?h1 ?h63 ?hby ?hbs _ rfl ?_
           go_must (case hls => exact lst_one _ _ _ _ (by simp))
           go_must (case h1 => simp [Value.oneCell'])
           go_must (case h63 => simp only [maxLen]; omega)
           go_must (case hby => omega)
           go_must (case hbs => first | omega | (simp; omega))
           intro A4 c4 w4 hown4 hgr4 hat4
           have hB4 : Below w.heap.size w w4 := ((below_drewN hBa _).alloc (by simp; omega) _).grown hgr4 (by simp; omega) (fun j hj => by simp [Value.ownBlock] at hj)
           have hz4 := hB4.size
           clear hgr4 hat4)
        | (at_builtin
           refine wpList_append_more _ rfl (.tmp 42) (.tmp 43) _ rfl w.heap.size 4 i0 _ 1 Try.underlying27 hi0 iz0 iz1 iz2 rfl (.slice A4 (0 + 1) c4) (0 + 1) [.bool true] rfl ?hown A bs.length c (bools bs) rfl ?hls (bools_length _) (bools_one _) ?h63 ?hby ?hbs _ rfl ?_
           go_must (case hown => exact hown4)
           go_must (case hls => exact hl.below hB4)
           go_must (case h63 => simp only [maxLen]; omega)
           go_must (case hby => omega)
           go_must (case hbs => first | omega | (simp; omega))
           intro A5 c5 w5 hown5 hgr5 hat5
           have hB5 : Below w.heap.size w w5 := hB4.grown hgr5 (by omega) (fun j hj => (hown4.lt j hj).1)
           have hz5 := hB5.size
           clear hgr5 hat5)
        | (at_builtin
           refine wpList_append_more _ rfl (.tmp 45) (.tmp 46) _ rfl w.heap.size 4 i0 _ 1 Try.underlying27 hi0 iz0 iz1 iz2 rfl (.slice A5 (0 + 1 + bs.length) c5) (0 + 1 + bs.length) ([.bool true] ++ bools bs) rfl ?hown (some ⟨w5.heap.size, 0, none⟩) 1 1 [.bool false] rfl ?hls rfl ?h1 ?h63 ?hby ?hbs _ rfl ?_
           go_must (case hown => exact hown5.alloc _)
           go_must (case hls => exact lst_one _ _ _ _ (by simp))
           go_must (case h1 => simp [Value.oneCell'])
           go_must (case h63 => simp only [maxLen]; omega)
           go_must (case hby => omega)
           go_must (case hbs => first | omega | (simp; omega))
           intro A6 c6 w6 hown6 hgr6 hat6
           have hB6 : Below w.heap.size w w6 := (hB5.alloc (by omega) _).grown hgr6 (by simp; omega) (fun j hj => (hown5.lt j hj).1)
           have hl6 : Lst w6 A6 (bools ([true] ++ bs ++ [false])) := by have := own_lst hown6; rw [bools_append, bools_append]; exact this
           have hlen : 0 + 1 + bs.length + 1 = ([true] ++ bs ++ [false]).length := by simp; omega
           rw [hlen]
           have hn6 : ([true] ++ bs ++ [false]).length ≤ 3002 := by rw [← hlen]; omega
           clear hgr6 hat6 hown6 hlen
           generalize [true] ++ bs ++ [false] = cs at *))
      go_ret
      exact ⟨rfl, hB6⟩
  · have hb : (ex (sh (bitAt bs) 0) bs.length == 0) = false := by rw [beq_eq_false_iff_ne]; exact he
    have HV : bal (bitAt bs) bs.length = false := by rw [HB.out, decide_eq_false he, Bool.false_and]
    rw [HV] at HBal HRB
    clear HB HBW HV HR hge
    generalize ex (sh (bitAt bs) 0) bs.length = z at *
    clear he
    go_enter Try.func15, Try.ntmps15
    go_wp2_with fail
    refine (awake6 _).mono ?_
    rintro e w1 ⟨rfl, hB1⟩
    have hz1 := hB1.size
    go_wp2_with fail
    refine (made_any A c bs _ (hl.below hB1) (by omega)).mono ?_
    rintro e w3 ⟨g3, A3, c3, rfl, hr3, _, _, hB3⟩
    have hz3 := hB3.size
    have hBa : Below w.heap.size w w3 := hB1.trans (hB3.mono hz1)
    go_wp2_with fail
    refine (HRB.out _ (hl.below hBa)).mono ?_
    rintro e w' ⟨rfl, rfl⟩
    go_wp2_with fail
    refine (HBal.out g3 A3 c3 _ hr3).mono ?_
    rintro e w' ⟨rfl, m1, rfl⟩
    go_wp2_with fail
    refine (HX.out g3 A3 c3 _ (by exact hr3)).mono ?_
    rintro e w' ⟨rfl, m2, rfl⟩
    have hls := hl.below hBa
    have hzw : w.heap.size ≤ w3.heap.size := hBa.size
    go_wp2_with (first
      | (at_builtin
         refine wpList_append_more _ rfl (.tmp 39) (.tmp 40) _ rfl w.heap.size 4 i0 _ 1 Try.underlying27 hi0 iz0 iz1 iz2 rfl (.slice none 0 0) 0 [] rfl (World.ownsRow_nil _ _ _ _) (some ⟨w3.heap.size, 0, none⟩) 1 1 [.bool true] rfl ?hls rfl ?h1 ?h63 ?hby ?hbs _ rfl ?_
         go_must (case hls => exact lst_one _ _ _ _ (by simp))
         go_must (case h1 => simp [Value.oneCell'])
         go_must (case h63 => simp only [maxLen]; omega)
         go_must (case hby => omega)
         go_must (case hbs => first | omega | (simp; omega))
         intro A4 c4 w4 hown4 hgr4 hat4
         have hB4 : Below w.heap.size w w4 := ((below_drewN hBa _).alloc (by simp; omega) _).grown hgr4 (by simp; omega) (fun j hj => by simp [Value.ownBlock] at hj)
         have hz4 := hB4.size
         clear hgr4 hat4)
      | (at_builtin
         refine wpList_append_more _ rfl (.tmp 42) (.tmp 43) _ rfl w.heap.size 4 i0 _ 1 Try.underlying27 hi0 iz0 iz1 iz2 rfl (.slice A4 (0 + 1) c4) (0 + 1) [.bool true] rfl ?hown A bs.length c (bools bs) rfl ?hls (bools_length _) (bools_one _) ?h63 ?hby ?hbs _ rfl ?_
         go_must (case hown => exact hown4)
         go_must (case hls => exact hl.below hB4)
         go_must (case h63 => simp only [maxLen]; omega)
         go_must (case hby => omega)
         go_must (case hbs => first | omega | (simp; omega))
         intro A5 c5 w5 hown5 hgr5 hat5
         have hB5 : Below w.heap.size w w5 := hB4.grown hgr5 (by omega) (fun j hj => (hown4.lt j hj).1)
         have hz5 := hB5.size
         clear hgr5 hat5)
      | (at_builtin
         refine wpList_append_more _ rfl (.tmp 45) (.tmp 46) _ rfl w.heap.size 4 i0 _ 1 Try.underlying27 hi0 iz0 iz1 iz2 rfl (.slice A5 (0 + 1 + bs.length) c5) (0 + 1 + bs.length) ([.bool true] ++ bools bs) rfl ?hown (some ⟨w5.heap.size, 0, none⟩) 1 1 [.bool false] rfl ?hls rfl ?h1 ?h63 ?hby ?hbs _ rfl ?_
         go_must (case hown => exact hown5.alloc _)
         go_must (case hls => exact lst_one _ _ _ _ (by simp))
         go_must (case h1 => simp [Value.oneCell'])
         go_must (case h63 => simp only [maxLen]; omega)
         go_must (case hby => omega)
         go_must (case hbs => first | omega | (simp; omega))
         intro A6 c6 w6 hown6 hgr6 hat6
         have hB6 : Below w.heap.size w w6 := (hB5.alloc (by omega) _).grown hgr6 (by simp; omega) (fun j hj => (hown5.lt j hj).1)
         have hl6 : Lst w6 A6 (bools ([true] ++ bs ++ [false])) := by have := own_lst hown6; rw [bools_append, bools_append]; exact this
         have hlen : 0 + 1 + bs.length + 1 = ([true] ++ bs ++ [false]).length := by simp; omega
         rw [hlen]
         have hn6 : ([true] ++ bs ++ [false]).length ≤ 3002 := by rw [← hlen]; omega
         clear hgr6 hat6 hown6 hlen
         generalize [true] ++ bs ++ [false] = cs at *))
    go_ret
    exact ⟨rfl, hB6⟩

theorem lawParenBalanced_any (A : Option Addr) (c : Nat) (bs : List Bool) (w : World) (hl : Lst w A (bools bs)) :
    Calls Try.prog 15 #[.slice A bs.length c] w fun e w' => e = .returned (.bool true) ∧ Below w.heap.size w w' := by
  rcases Nat.lt_or_ge 3000 bs.length with h | h
  · exact lawParenBalanced_long A bs.length c w h
  · exact lawParenBalanced_true A c bs w hl h

end Go.Proofs.Ytdhokioiloggeaa
