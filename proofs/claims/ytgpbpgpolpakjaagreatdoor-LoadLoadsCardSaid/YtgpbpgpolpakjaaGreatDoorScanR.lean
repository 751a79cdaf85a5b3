/- Proof text. -/
import Derived.Test.YtgpbpgpolpakjaaGreatDoorScanP
import Derived.Test.YtgpbpgpolpakjaaGreatDoorAutoP
set_option maxHeartbeats 8000000
set_option linter.unusedVariables false
set_option linter.unusedSimpArgs false
set_option maxRecDepth 100000
namespace Go.Proofs.YtgpbpgpolpakjaaGreatDoor
open Go.RowKit Go.Shelf L
def L.escb (c : Nat) : Bool := c == 34 || c == 92 || c == 47 || c == 98 || c == 102 || c == 110 || c == 114 || c == 116 || c == 117
def eix (c : Nat) : Int := Lib.indexByte [34, 92, 47, 98, 102, 110, 114, 116, 117] c.toUInt8
theorem z2f (c : Nat) (h : c < 256) : decide (eix c < 0) = !escb c := by
 have : ∀ c : Fin 256, decide (eix c.1 < 0) = !escb c.1 := by decide +kernel
 exact this ⟨c, h⟩
theorem zo4 (c : Nat) (w : World) : Calls Tryz.prog 153 #[.string { data := #[34, 92, 47, 98, 102, 110, 114, 116, 117] }, .int .u8 (c : Nat)] w fun e w' => e = .returned (.int .i64 (eix c)) ∧ w = w' :=
 (Tryz.strings_IndexByte { data := #[34, 92, 47, 98, 102, 110, 114, 116, 117] } (c : Nat) w).mono fun e w' ⟨he, hw⟩ => ⟨by rw [he]; rfl, hw.symm⟩
def Esc (l : List Nat) (k : Nat) (ok : Bool) (k' : Nat) : Prop := ∀ q kk, Goes l (toS q 7 kk 0) k ok (toS q 6 kk 0) k'
theorem zi5 {l : List Nat} {k : Nat} (hk : k ≤ l.length) (h : escb (at_ l k) = false) : Esc l k false k := fun q kk => by
 refine Goes.fail _ (R.refl hk) (zcs hk (fun _ => ?_) (Bool.and_false _))
 unfold escb at h
 simp only [Bool.or_eq_false_iff, beq_eq_false_iff_ne, ne_eq] at h
 show (if at_ l k = 117 then some _ else if _ then some _ else none) = _
 rw [if_neg (by omega), if_neg (by omega)]
theorem zwg {l : List Nat} {k : Nat} (h : escb (at_ l k) = true) (h2 : at_ l k ≠ 117) : Esc l k true (k + 1) := fun q kk => by
 unfold escb at h
 simp only [Bool.or_eq_true, beq_iff_eq] at h
 refine Goes.done (R.of (Dr.step (zb3 (by omega)) ?_))
 show (if at_ l k = 117 then some _ else if _ then some _ else none) = _
 rw [if_neg h2, if_pos (by omega)]; rfl
def hst (q : St) (kk : Bool) (j : Nat) : St := if j = 4 then toS q 6 kk 0 else toS q 8 kk (4 - j)
theorem z4u {l : List Nat} {k : Nat} (h : at_ l k = 117) (q : St) (kk : Bool) : R l (toS q 7 kk 0) k (hst q kk 0) (k + 1) := by
 refine R.of (Dr.step (zb3 (by omega)) ?_)
 show (if at_ l k = 117 then some _ else if _ then some _ else none) = _
 rw [if_pos h]; rfl
theorem zwh {l : List Nat} {q : St} {kk : Bool} {k j p : Nat} (hr : R l (toS q 7 kk 0) k (hst q kk j) p) (hj : j < 4) (h : hexd (at_ l p) = true) (hp : p < l.length) : R l (toS q 7 kk 0) k (hst q kk (j + 1)) (p + 1) := by
 refine hr.step hp ?_
 unfold hst
 rw [if_neg (by omega)]
 show (if hexd (at_ l p) then some (if 4 - j = 1 then _ else _) else none) = _
 rw [if_pos h]
 by_cases h3 : j = 3
 ·subst h3; rfl
 ·rw [if_neg (by omega), if_neg (by omega)]; rfl
theorem zkl {l : List Nat} {q : St} {kk : Bool} {j p : Nat} (hj : j < 4) (h : hexd (at_ l p) = false) (hp : p ≤ l.length) : Dead l (hst q kk j) p := by
 unfold hst
 rw [if_neg (by omega)]
 refine zcs hp (fun _ => ?_) (Bool.and_false _)
 show (if hexd (at_ l p) then some (if 4 - j = 1 then _ else _) else none) = _
 rw [if_neg (by rw [h]; simp)]
theorem z2g (g : Nat) (s : ByteArray) (k : Nat) (v : Value) (d m : Nat) (w : World) (hb : ScAt w g s k v d m) (hk : k ≤ s.size) (hs : s.size ≤ 65536) :
  Calls Tryz.prog 189 #[.pointer (some ⟨g, 0, none⟩)] w fun e w' => ∃ k' ok, e = .returned (.bool ok) ∧ ScAt w' g s k' v d m ∧ Sco g w w' ∧ Esc (nb s) k ok k' := by
 have hkl : k ≤ (nb s).length := by rw [zf]; exact hk
 have SN := zfc g s k v d m w hb
 have hlt := zmm s k
 have HE := hid (z2f (at_ (nb s) k) hlt)
 have ED := hid (@zi5 (nb s) k hkl)
 have EO := hid (@zwg (nb s) k)
 have EU := hid (@z4u (nb s) k)
 have HI := hid (@zew s k)
 have EH := hid (fun q kk j p => @zwh (nb s) q kk k j p)
 have EN := hid (fun q kk j p => @zkl (nb s) q kk j p)
 have c1 := hb.c1
 have f1 := hb.fr 1
 have x1 := zg k (by omega)
 have ho := (Sco.refl g w)
 have hb1 := hb.at' (k + 1) ((k : Int) + 1) (by omega)
 have ho1 := ho.set 1 (.int .i64 ((k : Int) + 1))
 generalize hc : at_ (nb s) k = c at *
 by_cases h0 : c = 0
 ·have HC := hid hc
  have H0 := hid h0
  have hz : ((c : Int) == 0) = true := by rw [beq_iff_eq]; omega
  clear hc h0
  go_enter Tryz.func189, Tryz.ntmps189
  go_wp2_with fail
  refine SN.mono ?_
  rintro e w' ⟨rfl, n0, rfl⟩
  go_wp2
  go_ret
  exact ⟨k, false, rfl, hb.drewN _, ho.drewN _, ED.out (by rw [H0.out]; decide)⟩
 ·have hz : ((c : Int) == 0) = false := by rw [beq_eq_false_iff_ne]; omega
  have hz2 : ¬ (c = 0) := h0
  cases hec : escb c
  ·have hd : decide (eix c < 0) = true := by rw [HE.out, hec]; rfl
   have HEC := hid hec
   clear hec hc
   go_enter Tryz.func189, Tryz.ntmps189
   go_wp2_with fail
   refine SN.mono ?_
   rintro e w' ⟨rfl, n0, rfl⟩
   go_wp2_with (go_at_call 153; refine (zo4 _ _).mono ?_; rintro e w' ⟨rfl, rfl⟩)
   go_ret
   exact ⟨k, false, rfl, hb.drewN _, ho.drewN _, ED.out HEC.out⟩
  ·have hd : decide (eix c < 0) = false := by rw [HE.out, hec]; rfl
   have HEC := hid hec
   clear hec
   by_cases hu : c = 117
   ·have hui : ((c : Int) != 117) = false := by rw [bne_eq_false_iff_eq]; omega
    have HU := hid hu
    have HKS := hid (HI.out (by omega))
    clear hu hc
    go_enter Tryz.func189, Tryz.ntmps189
    go_wp2_with fail
    refine SN.mono ?_
    rintro e w' ⟨rfl, n0, rfl⟩
    go_wp2_with (go_at_call 153; refine (zo4 _ _).mono ?_; rintro e w' ⟨rfl, rfl⟩)
    go_loopw [22] (fun i wr => ∃ j : Nat, i = .int .i64 (j : Nat) ∧ j ≤ 4 ∧ ScAt wr g s (k + 1 + j) v d m ∧ Sco g w wr ∧ k + 1 + j ≤ s.size ∧ ∀ q kk, R (nb s) (toS q 7 kk 0) k (hst q kk j) (k + 1 + j)) (fun i _ => 4 - (intOf i).toNat)
    case atStart => exact ⟨0, rfl, by omega, hb1.drewN _, ho1.drewN _, HKS.out, fun q kk => EU.out HU.out q kk⟩
    case round =>
     obtain ⟨j, rfl, hj, hb', ho', hk', hr⟩ := hrel
     have HR := hid hr
     clear hr
     rcases Nat.lt_or_ge j 4 with hlt4 | hge
     ·have hji : (j : Int) < 4 := by omega
      have hj1 := zg j (by omega)
      generalize hp : k + 1 + j = p at *
      have HP := hid hp
      clear hp
      have xp := zg p (by omega)
      have SN2 := zfc g s p v d m wr hb'
      have SH := hid (fun W => z1v (at_ (nb s) p) W (zmm s p))
      have HI2 := hid (@zew s p)
      have c1' := hb'.c1
      have f1' := hb'.fr 1
      have hn1 := hb'.at' (p + 1) ((p : Int) + 1) (by omega)
      have hn2 := ho'.set 1 (.int .i64 ((p : Int) + 1))
      have hpl : p ≤ (nb s).length := by rw [zf]; exact hk'
      generalize hcp : at_ (nb s) p = cp at *
      cases hh : hexd cp
      ·have HH := hid hh
       rw [hh] at SH
       have HCP := hid hcp
       clear hh hcp
       go_wp2_with fail
       refine SN2.mono ?_
       rintro e w' ⟨rfl, n1, rfl⟩
       go_wp2_with (go_at_call 211; refine (SH.out _).mono ?_; rintro e w' ⟨rfl, rfl⟩)
       go_ret
       exact ⟨p, false, rfl, hb'.drewN _, ho'.drewN _, fun q kk => Goes.fail _ (HR.out q kk) (EN.out q kk j p hlt4 (by rw [HCP.out]; exact HH.out) hpl)⟩
      ·have HH := hid hh
       rw [hh] at SH
       have HCP := hid hcp
       clear hh hcp
       go_wp2_with fail
       refine SN2.mono ?_
       rintro e w' ⟨rfl, n1, rfl⟩
       go_wp2_with (go_at_call 211; refine (SH.out _).mono ?_; rintro e w' ⟨rfl, rfl⟩)
       have hps : p < s.size := HI2.out (by intro e0; have := HH.out; rw [e0] at this; exact absurd this (by decide))
       go_roundw
       case rel => exact ⟨j + 1, rfl, by omega, by rw [← Nat.add_assoc, HP.out]; exact hn1.drewN _, hn2.drewN _, by have := HP.out; omega, fun q kk => by
        rw [← Nat.add_assoc, HP.out]
        exact EH.out q kk j p (HR.out q kk) hlt4 (by rw [HCP.out]; exact HH.out) (by rw [zf]; exact hps)⟩
       case measure => simp [intOf]; omega
     ·obtain rfl : j = 4 := by omega
      go_wp2
      go_ret
      exact ⟨k + 1 + 4, true, rfl, hb', ho', fun q kk => Goes.done (HR.out q kk)⟩
   ·have hui : ((c : Int) != 117) = true := by rw [bne_iff_ne]; omega
    have HU := hid hu
    clear hu hc
    go_enter Tryz.func189, Tryz.ntmps189
    go_wp2_with fail
    refine SN.mono ?_
    rintro e w' ⟨rfl, n0, rfl⟩
    go_wp2_with (go_at_call 153; refine (zo4 _ _).mono ?_; rintro e w' ⟨rfl, rfl⟩)
    go_ret
    exact ⟨k + 1, true, rfl, hb1.drewN _, ho1.drewN _, EO.out HEC.out HU.out⟩
def InS (l : List Nat) (k u p : Nat) : Prop := ∀ q kk, R l (toS q 6 kk 0) k (toS q 6 kk u) p
def Strg (l : List Nat) (k : Nat) (ok : Bool) (k' : Nat) : Prop := ∀ q kk, Goes l (toS q 6 kk 0) k ok (to q (if kk then 4 else 5)) k'
section
variable {l : List Nat} {k u p : Nat}
theorem zgf (q : St) (kk : Bool) (u c : Nat) : delta (toS q 6 kk u) c = (if u = 0 ∧ c < 32 then none else if u = 0 ∧ c = 34 then some (to q (if kk then 4 else 5)) else if u = 0 ∧ c = 92 then some (toS q 7 kk 0) else if 7 < zaf u c then none else some (toS q 6 kk (zaf u c))) := rfl
theorem zwi (h : InS l k 0 p) (hc : at_ l p = 34) : Strg l k true (p + 1) := fun q kk => by
 refine Goes.done ((h q kk).step (zb3 (by omega)) ?_)
 rw [zgf, hc]; rfl
theorem zwj (h : InS l k 0 p) (hp : p < l.length) (hc : at_ l p < 32) : Strg l k false p := fun q kk => by
 refine Goes.fail _ (h q kk) (zcs (by omega) (fun _ => ?_) (Bool.and_false _))
 rw [zgf, if_pos ⟨rfl, hc⟩]
theorem zo5 (h : InS l k u p) (hp : p = l.length) : Strg l k false p := fun q kk => Goes.fail _ (h q kk) (zcs (by omega) (fun h2 => by omega) (Bool.and_false _))
theorem zwk {p' : Nat} {ok : Bool} (h : InS l k 0 p) (hc : at_ l p = 92) (he : Esc l (p + 1) ok p') : (ok = true ∧ InS l k 0 p') ∨ (ok = false ∧ Strg l k false p') := by
 have h7 : ∀ q kk, R l (toS q 6 kk 0) k (toS q 7 kk 0) (p + 1) := fun q kk => (h q kk).step (zb3 (by omega)) (by rw [zgf, hc]; rfl)
 cases ok
 ·refine Or.inr ⟨rfl, fun q kk => ?_⟩
  rcases he q kk with ⟨e, _⟩ | ⟨_, q', r, d⟩
  ·cases e
  ·exact Goes.fail _ ((h7 q kk).trans r) d
 ·refine Or.inl ⟨rfl, fun q kk => ?_⟩
  rcases he q kk with ⟨_, r⟩ | ⟨e, _⟩
  ·exact (h7 q kk).trans r
  ·cases e
theorem zs1 (h : InS l k u p) (hp : p < l.length) (hn : ¬ (u = 0 ∧ (at_ l p < 32 ∨ at_ l p = 34 ∨ at_ l p = 92))) (hu : zaf u (at_ l p) ≤ 7) : InS l k (zaf u (at_ l p)) (p + 1) := fun q kk => by
 refine (h q kk).step hp ?_
 rw [zgf, if_neg (by omega), if_neg (by omega), if_neg (by omega), if_neg (by omega)]
theorem zwl (h : InS l k u p) (hp : p < l.length) (hn : ¬ (u = 0 ∧ (at_ l p < 32 ∨ at_ l p = 34 ∨ at_ l p = 92))) (hu : 7 < zaf u (at_ l p)) : Strg l k false p := fun q kk => by
 refine Goes.fail _ (h q kk) (zcs (by omega) (fun _ => ?_) (Bool.and_false _))
 rw [zgf, if_neg (by omega), if_neg (by omega), if_neg (by omega), if_pos hu]
end
theorem z2h : ∀ i, i < ({ data := #[34] } : ByteArray).size → at_ (nb { data := #[34] }) i ≠ 0 := fun i hi => by
 have h1 : i < 1 := hi
 obtain rfl : i = 0 := by omega
 decide
theorem z2i : nb { data := #[34] } = [34] := rfl
theorem zs2 {l : List Nat} {c k k' : Nat} {ok : Bool} (h : Tk l [c] k k' ok) : (ok = true ∧ k' = k + 1 ∧ at_ l k = c) ∨ (ok = false ∧ k' = k ∧ at_ l k ≠ c) := by
 rcases h with ⟨e, e2, h⟩ | ⟨e, j, hj, e2, _, h⟩
 ·exact Or.inl ⟨e, e2, h 0 (by simp)⟩
 ·simp only [List.length_cons, List.length_nil] at hj
  obtain rfl : j = 0 := by omega
  rw [e2] at h
  exact Or.inr ⟨e, e2, h⟩
theorem zs3 (g : Nat) (s : ByteArray) (k : Nat) (v : Value) (d m : Nat) (w : World) (hb : ScAt w g s k v d m) (hk : k ≤ s.size) (hs : s.size ≤ 65536) :
  Calls Tryz.prog 160 #[.pointer (some ⟨g, 0, none⟩)] w fun e w' => ∃ k' ok, e = .returned (.bool ok) ∧ ScAt w' g s k' v d m ∧ Sco g w w' ∧ ((at_ (nb s) k ≠ 34 ∧ ok = false ∧ k' = k) ∨ (at_ (nb s) k = 34 ∧ Strg (nb s) (k + 1) ok k')) := by
 have hll := zf s
 have ST := hid (zga { data := #[34] } g s k v d m w hb hk hs z2h (by decide))
 go_enter Tryz.func160, Tryz.ntmps160
 go_wp2_with fail
 refine zq4 0 (fun a' w' => ∃ (p u : Nat) (U : Int) (u1 u2 u4 u5 u6 u7 u8 u9 u10 u11 u12 u13 u14 u15 u16 u17 u18 u19 u20 u21 u22 u23 u24 u25 u26 u27 u28 u29 u30 u31 u32 u33 u34 u35 u36 u37 u38 u39 u40 u41 u42 u43 u44 u45 u46 u47 u48 u49 u50 u51 u52 u53 u54 u55 u56 u57 u58 u59 u60 u61 u62 u63 u64 u65 u66 u67 u68 u69 u70 u71 u72 u73 u74 u75 u76 : Value), a' = { tmps := #[.pointer (some ⟨g, 0, none⟩), u1, u2, .int .i64 U, u4, u5, u6, u7, u8, u9, u10, u11, u12, u13, u14, u15, u16, u17, u18, u19, u20, u21, u22, u23, u24, u25, u26, u27, u28, u29, u30, u31, u32, u33, u34, u35, u36, u37, u38, u39, u40, u41, u42, u43, u44, u45, u46, u47, u48, u49, u50, u51, u52, u53, u54, u55, u56, u57, u58, u59, u60, u61, u62, u63, u64, u65, u66, u67, u68, u69, u70, u71, u72, u73, u74, u75, u76], defers := [] } ∧ U = (u : Nat) ∧ u ≤ 7 ∧ p ≤ s.size ∧ ScAt w' g s p v d m ∧ Sco g w w' ∧ InS (nb s) (k + 1) u p ∧ at_ (nb s) k = 34) (fun _ w' => s.size - zbf w' g) rfl ?_ ?_
 ·rintro a' w' ⟨p, u, U, u1, u2, u4, u5, u6, u7, u8, u9, u10, u11, u12, u13, u14, u15, u16, u17, u18, u19, u20, u21, u22, u23, u24, u25, u26, u27, u28, u29, u30, u31, u32, u33, u34, u35, u36, u37, u38, u39, u40, u41, u42, u43, u44, u45, u46, u47, u48, u49, u50, u51, u52, u53, u54, u55, u56, u57, u58, u59, u60, u61, u62, u63, u64, u65, u66, u67, u68, u69, u70, u71, u72, u73, u74, u75, u76, rfl, hU, hu, hp, hb', ho', hin, hq⟩
  have HIN := hid hin
  have HQ := hid hq
  clear hin hq
  have c0 := hb'.c0
  have c1 := hb'.c1
  have f1 := hb'.fr 1
  rcases Nat.lt_or_ge p s.size with h | h
  ·have HPL := hid (show p < (nb s).length by rw [hll]; exact h)
   have hi : (p : Int) < (s.size : Int) := by omega
   have hne : ((p : Int) == (s.size : Int)) = false := by rw [beq_eq_false_iff_ne]; omega
   have x1 := zg p (by omega)
   have HA := hid (zaz s p h)
   have hlt := UInt8.toNat_lt s[p]
   have hn1 := hb'.at' (p + 1) ((p : Int) + 1) (by omega)
   have hn2 := ho'.set 1 (.int .i64 ((p : Int) + 1))
   have HP0 := hid hb'.pos
   have hps : ∀ W k', ScAt W g s k' v d m → zbf W g = k' := fun W k' h => h.pos
   have SE := hid (fun (W : World) (hW : ScAt W g s (p + 1) v d m) => z2g g s (p + 1) v d m W hW (by omega) hs)
   have SU := hid (fun (W : World) (V : Int) (hV : V = (u : Nat)) => (show Calls Tryz.prog 190 #[.int .i64 V, .int .u8 ((s[p]).toNat : Nat)] W (fun e w' => e = .returned (.int .i64 (zaf u (s[p]).toNat : Nat)) ∧ W = w') from by rw [hV]; exact zzi u (s[p]).toNat W hlt hu))
   have HC := hid (show at_ (nb s) p = (s[p]).toNat from HA.out)
   by_cases hsp : u = 0 ∧ ((s[p]).toNat < 32 ∨ (s[p]).toNat = 34 ∨ (s[p]).toNat = 92)
   ·obtain ⟨rfl, hsp⟩ := hsp
    rcases hsp with h32 | h34 | h92
    ·have hd : decide (((s[p]).toNat : Int) < 32) = true := decide_eq_true (by omega)
     have H32 := hid h32
     go_wp2_with fail
     go_quiet (fail)
     go_wp2_with fail
     go_quiet (fail)
     go_wp2_with fail
     simp only [Exit.jump]
     go_ret
     exact ⟨p, false, rfl, hb'.drewN _, ho'.drewN _, Or.inr ⟨HQ.out, zwj HIN.out HPL.out (by rw [HA.out]; exact H32.out)⟩⟩
    ·have h34I : ((s[p]).toNat : Int) = 34 := by omega
     have H34 := hid h34
     go_wp2_with fail
     go_quiet (fail)
     go_wp2_with fail
     go_quiet (fail)
     go_wp2_with fail
     simp only [Exit.jump]
     go_ret
     exact ⟨p + 1, true, rfl, hn1.drewN _, hn2.drewN _, Or.inr ⟨HQ.out, zwi HIN.out (HA.out.trans H34.out)⟩⟩
    ·have h92I : ((s[p]).toNat : Int) = 92 := by omega
     have H92 := hid h92
     go_wp2_with fail
     go_quiet (fail)
     go_wp2_with fail
     go_quiet (fail)
     go_wp2_with fail
     refine (SE.out _ (by exact hn1.drewN _)).mono ?_
     rintro e w2 ⟨k2, ok2, rfl, hb2, ho2, hes⟩
     rcases zwk HIN.out (HA.out.trans H92.out) hes with ⟨rfl, hin2⟩ | ⟨rfl, hst⟩
     ·have HES := hid hes
      clear hes
      have hk2 : p + 1 ≤ k2 ∧ k2 ≤ s.size := by
       have := (HES.out L.start false).le
       rw [hll] at this; exact this
      go_wp2_with fail
      go_step3
      refine ⟨rfl, ⟨k2, 0, _, _, _, _, _, _, _, _, _, _, _, _, _, _, _, _, _, _, _, _, _, _, _, _, _, _, _, _, _, _, _, _, _, _, _, _, _, _, _, _, _, _, _, _, _, _, _, _, _, _, _, _, _, _, _, _, _, _, _, _, _, _, _, _, _, _, _, _, _, _, _, _, _, _, _, _, rfl, rfl, by omega, hk2.2, hb2, (hn2.drewN _).trans ho2, hin2, HQ.out⟩, ?_⟩
      rw [hps _ _ hb2, HP0.out]; omega
     ·clear hes
      go_wp2_with fail
      simp only [Exit.jump]
      go_ret
      exact ⟨k2, false, rfl, hb2, (hn2.drewN _).trans ho2, Or.inr ⟨HQ.out, hst⟩⟩
   ·have HSP := hid hsp
    have g1 : ((u : Int) == 0) = decide (u = 0) := by apply Bool.eq_iff_iff.2; rw [beq_iff_eq, decide_eq_true_eq]; omega
    by_cases hstp : zaf u (s[p]).toNat ≤ 7
    ·have HSTP := hid hstp
     have hi2 := zs1 HIN.out HPL.out (by rw [HA.out]; exact hsp) (by rw [HA.out]; exact hstp)
     rw [HA.out] at hi2
     have HI2 := hid hi2
     clear hi2 hsp hstp
     generalize hus : zaf u (s[p]).toNat = us at *
     have hus7 := HSTP.out
     have hd7 : decide ((us : Int) > 7) = false := decide_eq_false (by omega)
     have hd7N : ¬ (7 < us) := by omega
     have HUS := hid hus
     clear hus
     by_cases hu0 : u = 0
     ·subst hu0
      have hd : decide (((s[p]).toNat : Int) < 32) = false := decide_eq_false (by have := HSP.out; omega)
      have hdN : ¬ ((s[p]).toNat < 32) := by have := HSP.out; omega
      have h34 : (((s[p]).toNat : Int) == 34) = false := by rw [beq_eq_false_iff_ne]; have := HSP.out; omega
      have h92 : (((s[p]).toNat : Int) == 92) = false := by rw [beq_eq_false_iff_ne]; have := HSP.out; omega
      have h34N : ¬ ((s[p]).toNat = 34) := by have := HSP.out; omega
      have h92N : ¬ ((s[p]).toNat = 92) := by have := HSP.out; omega
      go_wp2_with fail
      go_quiet (fail)
      go_wp2_with fail
      go_quiet (fail)
      go_wp2_with fail
      refine (SU.out _ _ (by first | exact hU | rfl)).mono ?_
      rintro e w2 ⟨rfl, rfl⟩
      go_wp2_with fail
      go_step3
      refine ⟨rfl, ⟨p + 1, us, _, _, _, _, _, _, _, _, _, _, _, _, _, _, _, _, _, _, _, _, _, _, _, _, _, _, _, _, _, _, _, _, _, _, _, _, _, _, _, _, _, _, _, _, _, _, _, _, _, _, _, _, _, _, _, _, _, _, _, _, _, _, _, _, _, _, _, _, _, _, _, _, _, _, _, _, rfl, rfl, hus7, h, hn1.drewN _, hn2.drewN _, HI2.out, HQ.out⟩, ?_⟩
      rw [hps _ (p + 1) (by exact hn1.drewN _), HP0.out]; omega
     ·have hd0 : ((u : Int) == 0) = false := by rw [beq_eq_false_iff_ne]; omega
      go_wp2_with fail
      go_quiet (fail)
      go_wp2_with fail
      go_quiet (fail)
      go_wp2_with fail
      refine (SU.out _ _ (by first | exact hU | rfl)).mono ?_
      rintro e w2 ⟨rfl, rfl⟩
      go_wp2_with fail
      go_step3
      refine ⟨rfl, ⟨p + 1, us, _, _, _, _, _, _, _, _, _, _, _, _, _, _, _, _, _, _, _, _, _, _, _, _, _, _, _, _, _, _, _, _, _, _, _, _, _, _, _, _, _, _, _, _, _, _, _, _, _, _, _, _, _, _, _, _, _, _, _, _, _, _, _, _, _, _, _, _, _, _, _, _, _, _, _, _, rfl, rfl, hus7, h, hn1.drewN _, hn2.drewN _, HI2.out, HQ.out⟩, ?_⟩
      rw [hps _ (p + 1) (by exact hn1.drewN _), HP0.out]; omega
    ·have hi2 := zwl HIN.out HPL.out (by rw [HA.out]; exact hsp) (by rw [HA.out]; omega)
     have HI2 := hid hi2
     have HSTP := hid hstp
     clear hi2 hsp hstp
     generalize hus : zaf u (s[p]).toNat = us at *
     have hus7 := HSTP.out
     have hd7 : decide ((us : Int) > 7) = true := decide_eq_true (by omega)
     have hd7N : 7 < us := by omega
     have HUS := hid hus
     clear hus
     by_cases hu0 : u = 0
     ·subst hu0
      have hd : decide (((s[p]).toNat : Int) < 32) = false := decide_eq_false (by have := HSP.out; omega)
      have hdN : ¬ ((s[p]).toNat < 32) := by have := HSP.out; omega
      have h34 : (((s[p]).toNat : Int) == 34) = false := by rw [beq_eq_false_iff_ne]; have := HSP.out; omega
      have h92 : (((s[p]).toNat : Int) == 92) = false := by rw [beq_eq_false_iff_ne]; have := HSP.out; omega
      have h34N : ¬ ((s[p]).toNat = 34) := by have := HSP.out; omega
      have h92N : ¬ ((s[p]).toNat = 92) := by have := HSP.out; omega
      go_wp2_with fail
      go_quiet (fail)
      go_wp2_with fail
      go_quiet (fail)
      go_wp2_with fail
      refine (SU.out _ _ (by first | exact hU | rfl)).mono ?_
      rintro e w2 ⟨rfl, rfl⟩
      go_wp2_with fail
      simp only [Exit.jump]
      go_ret
      exact ⟨p, false, rfl, hb'.drewN _, ho'.drewN _, Or.inr ⟨HQ.out, HI2.out⟩⟩
     ·have hd0 : ((u : Int) == 0) = false := by rw [beq_eq_false_iff_ne]; omega
      go_wp2_with fail
      go_quiet (fail)
      go_wp2_with fail
      go_quiet (fail)
      go_wp2_with fail
      refine (SU.out _ _ (by first | exact hU | rfl)).mono ?_
      rintro e w2 ⟨rfl, rfl⟩
      go_wp2_with fail
      simp only [Exit.jump]
      go_ret
      exact ⟨p, false, rfl, hb'.drewN _, ho'.drewN _, Or.inr ⟨HQ.out, HI2.out⟩⟩
  ·obtain rfl : p = s.size := by omega
   have heq : ((s.size : Int) == (s.size : Int)) = true := by rw [beq_iff_eq]
   go_wp2_with fail
   go_quiet (fail)
   go_wp2_with fail
   simp only [Exit.jump]
   go_ret
   exact ⟨s.size, false, rfl, hb'.drewN _, ho'.drewN _, Or.inr ⟨HQ.out, zo5 HIN.out hll.symm⟩⟩
 ·intro enter
  go_wp2_with fail
  refine ST.out.mono ?_
  rintro e w1 ⟨k1, ok, rfl, hb1, ho1, hk1, htk⟩
  rw [z2i] at htk
  rcases zs2 htk with ⟨rfl, rfl, hq⟩ | ⟨rfl, rfl, hq⟩
  ·clear htk
   go_wp2_with fail
   go_step3
   rename_i hK
   refine hK _ _ (enter _ _ ?_)
   exact ⟨k + 1, 0, _, _, _, _, _, _, _, _, _, _, _, _, _, _, _, _, _, _, _, _, _, _, _, _, _, _, _, _, _, _, _, _, _, _, _, _, _, _, _, _, _, _, _, _, _, _, _, _, _, _, _, _, _, _, _, _, _, _, _, _, _, _, _, _, _, _, _, _, _, _, _, _, _, _, _, _, rfl, rfl, by omega, hk1, hb1, ho1, fun q kk => R.refl (by rw [hll]; exact hk1), hq⟩
  ·clear htk
   go_wp2_with fail
   simp only [Exit.jump]
   go_ret
   exact ⟨_, false, rfl, hb1, ho1, Or.inl ⟨hq, rfl, rfl⟩⟩
end Go.Proofs.YtgpbpgpolpakjaaGreatDoor
