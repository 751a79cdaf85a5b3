/- Walks: the scanner's steps: a string. -/
import Derived.Test.YtacllonekidocaaGreatDoorScanF
set_option linter.unusedVariables false
set_option linter.unusedSimpArgs false
set_option maxRecDepth 100000
namespace Go.Proofs.YtacllonekidocaaGreatDoor
open Go.RowKit Go.Shelf L

/-- In a string, behind its first sign. -/
def InS (l : List Nat) (k u p : Nat) : Prop := ∀ q kk, R l (toS q 6 kk 0) k (toS q 6 kk u) p
def Strg (l : List Nat) (k : Nat) (ok : Bool) (k' : Nat) : Prop := ∀ q kk, Goes l (toS q 6 kk 0) k ok (to q (if kk then 4 else 5)) k'
section
variable {l : List Nat} {k u p : Nat}
theorem delta_str (q : St) (kk : Bool) (u c : Nat) : delta (toS q 6 kk u) c = (if u = 0 ∧ c < 32 then none else if u = 0 ∧ c = 34 then some (to q (if kk then 4 else 5)) else if u = 0 ∧ c = 92 then some (toS q 7 kk 0) else if 7 < ustep u c then none else some (toS q 6 kk (ustep u c))) := rfl
theorem str_end (h : InS l k 0 p) (hc : at_ l p = 34) : Strg l k true (p + 1) := fun q kk => by
  refine Goes.done ((h q kk).step (at_ne (by omega)) ?_)
  rw [delta_str, hc]; rfl
theorem str_low (h : InS l k 0 p) (hp : p < l.length) (hc : at_ l p < 32) : Strg l k false p := fun q kk => by
  refine Goes.fail _ (h q kk) (dead_of (by omega) (fun _ => ?_) (Bool.and_false _))
  rw [delta_str, if_pos ⟨rfl, hc⟩]
theorem str_out (h : InS l k u p) (hp : p = l.length) : Strg l k false p := fun q kk => Goes.fail _ (h q kk) (dead_of (by omega) (fun h2 => by omega) (Bool.and_false _))
theorem str_esc {p' : Nat} {ok : Bool} (h : InS l k 0 p) (hc : at_ l p = 92) (he : Esc l (p + 1) ok p') : (ok = true ∧ InS l k 0 p') ∨ (ok = false ∧ Strg l k false p') := by
  have h7 : ∀ q kk, R l (toS q 6 kk 0) k (toS q 7 kk 0) (p + 1) := fun q kk => (h q kk).step (at_ne (by omega)) (by rw [delta_str, hc]; rfl)
  cases ok
  · refine Or.inr ⟨rfl, fun q kk => ?_⟩
    rcases he q kk with ⟨e, _⟩ | ⟨_, q', r, d⟩
    · cases e
    · exact Goes.fail _ ((h7 q kk).trans r) d
  · refine Or.inl ⟨rfl, fun q kk => ?_⟩
    rcases he q kk with ⟨_, r⟩ | ⟨e, _⟩
    · exact (h7 q kk).trans r
    · cases e
theorem str_step (h : InS l k u p) (hp : p < l.length) (hn : ¬ (u = 0 ∧ (at_ l p < 32 ∨ at_ l p = 34 ∨ at_ l p = 92))) (hu : ustep u (at_ l p) ≤ 7) : InS l k (ustep u (at_ l p)) (p + 1) := fun q kk => by
  refine (h q kk).step hp ?_
  rw [delta_str, if_neg (by omega), if_neg (by omega), if_neg (by omega), if_neg (by omega)]
theorem str_bad (h : InS l k u p) (hp : p < l.length) (hn : ¬ (u = 0 ∧ (at_ l p < 32 ∨ at_ l p = 34 ∨ at_ l p = 92))) (hu : 7 < ustep u (at_ l p)) : Strg l k false p := fun q kk => by
  refine Goes.fail _ (h q kk) (dead_of (by omega) (fun _ => ?_) (Bool.and_false _))
  rw [delta_str, if_neg (by omega), if_neg (by omega), if_neg (by omega), if_pos hu]
end

theorem quote_nz : ∀ i, i < ({ data := #[34] } : ByteArray).size → at_ (nb { data := #[34] }) i ≠ 0 := fun i hi => by
  have h1 : i < 1 := hi
  obtain rfl : i = 0 := by omega
  decide
theorem quote_nb : nb { data := #[34] } = [34] := rfl
theorem tk_one {l : List Nat} {c k k' : Nat} {ok : Bool} (h : Tk l [c] k k' ok) : (ok = true ∧ k' = k + 1 ∧ at_ l k = c) ∨ (ok = false ∧ k' = k ∧ at_ l k ≠ c) := by
  rcases h with ⟨e, e2, h⟩ | ⟨e, j, hj, e2, _, h⟩
  · exact Or.inl ⟨e, e2, h 0 (by simp)⟩
  · simp only [List.length_cons, List.length_nil] at hj
    obtain rfl : j = 0 := by omega
    rw [e2] at h
    exact Or.inr ⟨e, e2, h⟩

set_option maxHeartbeats 8000000 in
theorem sstr_any (g : Nat) (s : ByteArray) (k : Nat) (v : Value) (d m : Nat) (w : World) (hb : ScAt w g s k v d m) (hk : k ≤ s.size) (hs : s.size ≤ 65536) :
    Calls Tryz.prog 120 #[.pointer (some ⟨g, 0, none⟩)] w fun e w' => ∃ k' ok, e = .returned (.bool ok) ∧ ScAt w' g s k' v d m ∧ Sco g w w' ∧ ((at_ (nb s) k ≠ 34 ∧ ok = false ∧ k' = k) ∨ (at_ (nb s) k = 34 ∧ Strg (nb s) (k + 1) ok k')) := by
  have hll := nb_length s
  have ST := hid (stake_any { data := #[34] } g s k v d m w hb hk hs quote_nz (by decide))
  go_enter Tryz.func120, Tryz.ntmps120
  go_wp2_with fail
  refine wp_scope_fall 0 (fun a' w' => ∃ (p u : Nat) (U : Int) (u1 u2 u4 u5 u6 u7 u8 u9 u10 u11 u12 u13 u14 u15 u16 u17 u18 u19 u20 u21 u22 u23 u24 u25 u26 u27 u28 u29 u30 u31 u32 u33 u34 u35 u36 u37 u38 u39 u40 u41 u42 u43 u44 u45 u46 u47 u48 u49 u50 u51 u52 u53 u54 u55 u56 u57 u58 u59 u60 u61 u62 u63 u64 u65 u66 u67 u68 u69 u70 u71 u72 u73 u74 u75 u76 : Value), a' = { tmps := #[.pointer (some ⟨g, 0, none⟩), u1, u2, .int .i64 U, u4, u5, u6, u7, u8, u9, u10, u11, u12, u13, u14, u15, u16, u17, u18, u19, u20, u21, u22, u23, u24, u25, u26, u27, u28, u29, u30, u31, u32, u33, u34, u35, u36, u37, u38, u39, u40, u41, u42, u43, u44, u45, u46, u47, u48, u49, u50, u51, u52, u53, u54, u55, u56, u57, u58, u59, u60, u61, u62, u63, u64, u65, u66, u67, u68, u69, u70, u71, u72, u73, u74, u75, u76], defers := [] } ∧ U = (u : Nat) ∧ u ≤ 7 ∧ p ≤ s.size ∧ ScAt w' g s p v d m ∧ Sco g w w' ∧ InS (nb s) (k + 1) u p ∧ at_ (nb s) k = 34) (fun _ w' => s.size - posOf w' g) rfl ?_ ?_
  · rintro a' w' ⟨p, u, U, u1, u2, u4, u5, u6, u7, u8, u9, u10, u11, u12, u13, u14, u15, u16, u17, u18, u19, u20, u21, u22, u23, u24, u25, u26, u27, u28, u29, u30, u31, u32, u33, u34, u35, u36, u37, u38, u39, u40, u41, u42, u43, u44, u45, u46, u47, u48, u49, u50, u51, u52, u53, u54, u55, u56, u57, u58, u59, u60, u61, u62, u63, u64, u65, u66, u67, u68, u69, u70, u71, u72, u73, u74, u75, u76, rfl, hU, hu, hp, hb', ho', hin, hq⟩
    have HIN := hid hin
    have HQ := hid hq
    clear hin hq
    have c0 := hb'.c0
    have c1 := hb'.c1
    have f1 := hb'.fr 1
    rcases Nat.lt_or_ge p s.size with h | h
    · have HPL := hid (show p < (nb s).length by rw [hll]; exact h)
      have hi : (p : Int) < (s.size : Int) := by omega
      have hne : ((p : Int) == (s.size : Int)) = false := by rw [beq_eq_false_iff_ne]; omega
      have x1 := wrap_oneS p (by omega)
      have HA := hid (at_nb s p h)
      have hlt := UInt8.toNat_lt s[p]
      have hn1 := hb'.at' (p + 1) ((p : Int) + 1) (by omega)
      have hn2 := ho'.set 1 (.int .i64 ((p : Int) + 1))
      have HP0 := hid hb'.pos
      have hps : ∀ W k', ScAt W g s k' v d m → posOf W g = k' := fun W k' h => h.pos
      have SE := hid (fun (W : World) (hW : ScAt W g s (p + 1) v d m) => sesc_any g s (p + 1) v d m W hW (by omega) hs)
      have SU := hid (fun (W : World) (V : Int) (hV : V = (u : Nat)) => (show Calls Tryz.prog 148 #[.int .i64 V, .int .u8 ((s[p]).toNat : Nat)] W (fun e w' => e = .returned (.int .i64 (ustep u (s[p]).toNat : Nat)) ∧ W = w') from by rw [hV]; exact ustep_any u (s[p]).toNat W hlt hu))
      have HC := hid (show at_ (nb s) p = (s[p]).toNat from HA.out)
      by_cases hsp : u = 0 ∧ ((s[p]).toNat < 32 ∨ (s[p]).toNat = 34 ∨ (s[p]).toNat = 92)
      · obtain ⟨rfl, hsp⟩ := hsp
        rcases hsp with h32 | h34 | h92
        · have hd : decide (((s[p]).toNat : Int) < 32) = true := decide_eq_true (by omega)
          have H32 := hid h32
          go_wp2_with fail
          go_quiet (fail)
          go_wp2_with fail
          go_quiet (fail)
          go_wp2_with fail
          simp only [Exit.jump]
          go_ret
          exact ⟨p, false, rfl, hb'.drewN _, ho'.drewN _, Or.inr ⟨HQ.out, str_low HIN.out HPL.out (by rw [HA.out]; exact H32.out)⟩⟩
        · have h34I : ((s[p]).toNat : Int) = 34 := by omega
          have H34 := hid h34
          go_wp2_with fail
          go_quiet (fail)
          go_wp2_with fail
          go_quiet (fail)
          go_wp2_with fail
          simp only [Exit.jump]
          go_ret
          exact ⟨p + 1, true, rfl, hn1.drewN _, hn2.drewN _, Or.inr ⟨HQ.out, str_end HIN.out (HA.out.trans H34.out)⟩⟩
        · have h92I : ((s[p]).toNat : Int) = 92 := by omega
          have H92 := hid h92
          go_wp2_with fail
          go_quiet (fail)
          go_wp2_with fail
          go_quiet (fail)
          go_wp2_with fail
          refine (SE.out _ (by exact hn1.drewN _)).mono ?_
          rintro e w2 ⟨k2, ok2, rfl, hb2, ho2, hes⟩
          rcases str_esc HIN.out (HA.out.trans H92.out) hes with ⟨rfl, hin2⟩ | ⟨rfl, hst⟩
          · have HES := hid hes
            clear hes
            have hk2 : p + 1 ≤ k2 ∧ k2 ≤ s.size := by
              have := (HES.out L.start false).le
              rw [hll] at this; exact this
            go_wp2_with fail
            go_step3
            refine ⟨rfl, ⟨k2, 0, _, _, _, _, _, _, _, _, _, _, _, _, _, _, _, _, _, _, _, _, _, _, _, _, _, _, _, _, _, _, _, _, _, _, _, _, _, _, _, _, _, _, _, _, _, _, _, _, _, _, _, _, _, _, _, _, _, _, _, _, _, _, _, _, _, _, _, _, _, _, _, _, _, _, _, _, rfl, rfl, by omega, hk2.2, hb2, (hn2.drewN _).trans ho2, hin2, HQ.out⟩, ?_⟩
            rw [hps _ _ hb2, HP0.out]; omega
          · clear hes
            go_wp2_with fail
            simp only [Exit.jump]
            go_ret
            exact ⟨k2, false, rfl, hb2, (hn2.drewN _).trans ho2, Or.inr ⟨HQ.out, hst⟩⟩
      · have HSP := hid hsp
        have g1 : ((u : Int) == 0) = decide (u = 0) := by apply Bool.eq_iff_iff.2; rw [beq_iff_eq, decide_eq_true_eq]; omega
        by_cases hstp : ustep u (s[p]).toNat ≤ 7
        · have HSTP := hid hstp
          have hi2 := str_step HIN.out HPL.out (by rw [HA.out]; exact hsp) (by rw [HA.out]; exact hstp)
          rw [HA.out] at hi2
          have HI2 := hid hi2
          clear hi2 hsp hstp
          generalize hus : ustep u (s[p]).toNat = us at *
          have hus7 := HSTP.out
          have hd7 : decide ((us : Int) > 7) = false := decide_eq_false (by omega)
          have hd7N : ¬ (7 < us) := by omega
          have HUS := hid hus
          clear hus
          by_cases hu0 : u = 0
          · subst hu0
            have hd : decide (((s[p]).toNat : Int) < 32) = false := decide_eq_false (by have := HSP.out; omega)
            have hdN : ¬ ((s[p]).toNat < 32) := by have := HSP.out; omega
            have h34 : (((s[p]).toNat : Int) == 34) = false := by rw [beq_eq_false_iff_ne]; have := HSP.out; omega
            have h92 : (((s[p]).toNat : Int) == 92) = false := by rw [beq_eq_false_iff_ne]; have := HSP.out; omega
            have h34N : ¬ ((s[p]).toNat = 34) := by have := HSP.out; omega
            have h92N : ¬ ((s[p]).toNat = 92) := by have := HSP.out; omega
            go_wp2_with fail
            go_quiet (fail)
            go_wp2_with fail
            go_quiet (fail)
            go_wp2_with fail
            refine (SU.out _ _ (by first | exact hU | rfl)).mono ?_
            rintro e w2 ⟨rfl, rfl⟩
            go_wp2_with fail
            go_step3
            refine ⟨rfl, ⟨p + 1, us, _, _, _, _, _, _, _, _, _, _, _, _, _, _, _, _, _, _, _, _, _, _, _, _, _, _, _, _, _, _, _, _, _, _, _, _, _, _, _, _, _, _, _, _, _, _, _, _, _, _, _, _, _, _, _, _, _, _, _, _, _, _, _, _, _, _, _, _, _, _, _, _, _, _, _, _, rfl, rfl, hus7, h, hn1.drewN _, hn2.drewN _, HI2.out, HQ.out⟩, ?_⟩
            rw [hps _ (p + 1) (by exact hn1.drewN _), HP0.out]; omega
          · have hd0 : ((u : Int) == 0) = false := by rw [beq_eq_false_iff_ne]; omega
            go_wp2_with fail
            go_quiet (fail)
            go_wp2_with fail
            go_quiet (fail)
            go_wp2_with fail
            refine (SU.out _ _ (by first | exact hU | rfl)).mono ?_
            rintro e w2 ⟨rfl, rfl⟩
            go_wp2_with fail
            go_step3
            refine ⟨rfl, ⟨p + 1, us, _, _, _, _, _, _, _, _, _, _, _, _, _, _, _, _, _, _, _, _, _, _, _, _, _, _, _, _, _, _, _, _, _, _, _, _, _, _, _, _, _, _, _, _, _, _, _, _, _, _, _, _, _, _, _, _, _, _, _, _, _, _, _, _, _, _, _, _, _, _, _, _, _, _, _, _, rfl, rfl, hus7, h, hn1.drewN _, hn2.drewN _, HI2.out, HQ.out⟩, ?_⟩
            rw [hps _ (p + 1) (by exact hn1.drewN _), HP0.out]; omega
        · have hi2 := str_bad HIN.out HPL.out (by rw [HA.out]; exact hsp) (by rw [HA.out]; omega)
          have HI2 := hid hi2
          have HSTP := hid hstp
          clear hi2 hsp hstp
          generalize hus : ustep u (s[p]).toNat = us at *
          have hus7 := HSTP.out
          have hd7 : decide ((us : Int) > 7) = true := decide_eq_true (by omega)
          have hd7N : 7 < us := by omega
          have HUS := hid hus
          clear hus
          by_cases hu0 : u = 0
          · subst hu0
            have hd : decide (((s[p]).toNat : Int) < 32) = false := decide_eq_false (by have := HSP.out; omega)
            have hdN : ¬ ((s[p]).toNat < 32) := by have := HSP.out; omega
            have h34 : (((s[p]).toNat : Int) == 34) = false := by rw [beq_eq_false_iff_ne]; have := HSP.out; omega
            have h92 : (((s[p]).toNat : Int) == 92) = false := by rw [beq_eq_false_iff_ne]; have := HSP.out; omega
            have h34N : ¬ ((s[p]).toNat = 34) := by have := HSP.out; omega
            have h92N : ¬ ((s[p]).toNat = 92) := by have := HSP.out; omega
            go_wp2_with fail
            go_quiet (fail)
            go_wp2_with fail
            go_quiet (fail)
            go_wp2_with fail
            refine (SU.out _ _ (by first | exact hU | rfl)).mono ?_
            rintro e w2 ⟨rfl, rfl⟩
            go_wp2_with fail
            simp only [Exit.jump]
            go_ret
            exact ⟨p, false, rfl, hb'.drewN _, ho'.drewN _, Or.inr ⟨HQ.out, HI2.out⟩⟩
          · have hd0 : ((u : Int) == 0) = false := by rw [beq_eq_false_iff_ne]; omega
            go_wp2_with fail
            go_quiet (fail)
            go_wp2_with fail
            go_quiet (fail)
            go_wp2_with fail
            refine (SU.out _ _ (by first | exact hU | rfl)).mono ?_
            rintro e w2 ⟨rfl, rfl⟩
            go_wp2_with fail
            simp only [Exit.jump]
            go_ret
            exact ⟨p, false, rfl, hb'.drewN _, ho'.drewN _, Or.inr ⟨HQ.out, HI2.out⟩⟩
    · obtain rfl : p = s.size := by omega
      have heq : ((s.size : Int) == (s.size : Int)) = true := by rw [beq_iff_eq]
      go_wp2_with fail
      go_quiet (fail)
      go_wp2_with fail
      simp only [Exit.jump]
      go_ret
      exact ⟨s.size, false, rfl, hb'.drewN _, ho'.drewN _, Or.inr ⟨HQ.out, str_out HIN.out hll.symm⟩⟩
  · intro enter
    go_wp2_with fail
    refine ST.out.mono ?_
    rintro e w1 ⟨k1, ok, rfl, hb1, ho1, hk1, htk⟩
    rw [quote_nb] at htk
    rcases tk_one htk with ⟨rfl, rfl, hq⟩ | ⟨rfl, rfl, hq⟩
    · clear htk
      go_wp2_with fail
      go_step3
      rename_i hK
      refine hK _ _ (enter _ _ ?_)
      exact ⟨k + 1, 0, _, _, _, _, _, _, _, _, _, _, _, _, _, _, _, _, _, _, _, _, _, _, _, _, _, _, _, _, _, _, _, _, _, _, _, _, _, _, _, _, _, _, _, _, _, _, _, _, _, _, _, _, _, _, _, _, _, _, _, _, _, _, _, _, _, _, _, _, _, _, _, _, _, _, _, _, rfl, rfl, by omega, hk1, hb1, ho1, fun q kk => R.refl (by rw [hll]; exact hk1), hq⟩
    · clear htk
      go_wp2_with fail
      simp only [Exit.jump]
      go_ret
      exact ⟨_, false, rfl, hb1, ho1, Or.inl ⟨hq, rfl, rfl⟩⟩

end Go.Proofs.YtacllonekidocaaGreatDoor
