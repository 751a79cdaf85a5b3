/- Walks: reference 12: a number, statement by statement (printed by gen/refnumber.py). -/
import Derived.Test.YtegoephanphnkaaRefC
set_option linter.unusedVariables false
set_option linter.unusedSimpArgs false
set_option maxRecDepth 100000
namespace Go.Proofs.Ytegoephanphnkaa
open Go.RowKit Go.Shelf L

/-- A sequence, cut: what holds between. -/
theorem wp_seq_cut {P : Program} {Q : Exit → Act → World → Prop} {a : Act} {w : World} {x y : Code} (J : Act → World → Prop) (h1 : x.wp P (Exit.then J Q) a w) (h2 : ∀ a w, J a w → y.wp P Q a w) : (Code.seq x y).wp P Q a w :=
  wp_seq (wp_mono h1 (fun e a w he => by cases e <;> first | exact h2 _ _ he | exact he))

/-- The frame: the place (and how many digits) known, or not. -/
def FA (s : ByteArray) (r p : Nat) (f : Nat → Value) : Act := { tmps := #[.string s, .int .i64 (p : Nat), f 2, f 3, .pointer (some ⟨r, 0, none⟩), f 5, f 6, f 7, f 8, f 9, f 10, f 11, f 12, f 13, f 14, f 15, f 16, f 17, f 18, f 19, f 20, f 21, f 22, f 23, f 24, f 25, f 26, f 27, f 28, f 29, f 30, f 31, f 32, f 33, f 34, f 35, f 36, f 37, f 38, f 39, f 40, f 41, f 42, f 43, f 44, f 45, f 46, f 47, f 48, f 49, f 50, f 51, f 52, f 53, f 54, f 55, f 56, f 57, f 58, f 59, f 60, f 61, f 62, f 63, f 64, f 65, f 66, f 67, f 68, f 69, f 70, f 71, f 72, f 73, f 74, f 75, f 76, f 77, f 78, f 79, f 80, f 81, f 82, f 83, f 84, f 85, f 86, f 87, f 88, f 89, f 90, f 91, f 92, f 93, f 94, f 95, f 96, f 97, f 98, f 99, f 100, f 101, f 102], defers := [] }
def FB (s : ByteArray) (r p n : Nat) (f : Nat → Value) : Act := { tmps := #[.string s, .int .i64 (p : Nat), f 2, f 3, .pointer (some ⟨r, 0, none⟩), .int .i64 (n : Nat), f 6, f 7, f 8, f 9, f 10, f 11, f 12, f 13, f 14, f 15, f 16, f 17, f 18, f 19, f 20, f 21, f 22, f 23, f 24, f 25, f 26, f 27, f 28, f 29, f 30, f 31, f 32, f 33, f 34, f 35, f 36, f 37, f 38, f 39, f 40, f 41, f 42, f 43, f 44, f 45, f 46, f 47, f 48, f 49, f 50, f 51, f 52, f 53, f 54, f 55, f 56, f 57, f 58, f 59, f 60, f 61, f 62, f 63, f 64, f 65, f 66, f 67, f 68, f 69, f 70, f 71, f 72, f 73, f 74, f 75, f 76, f 77, f 78, f 79, f 80, f 81, f 82, f 83, f 84, f 85, f 86, f 87, f 88, f 89, f 90, f 91, f 92, f 93, f 94, f 95, f 96, f 97, f 98, f 99, f 100, f 101, f 102], defers := [] }
theorem FA.mk (s : ByteArray) (r p : Nat) (u2 u3 u5 u6 u7 u8 u9 u10 u11 u12 u13 u14 u15 u16 u17 u18 u19 u20 u21 u22 u23 u24 u25 u26 u27 u28 u29 u30 u31 u32 u33 u34 u35 u36 u37 u38 u39 u40 u41 u42 u43 u44 u45 u46 u47 u48 u49 u50 u51 u52 u53 u54 u55 u56 u57 u58 u59 u60 u61 u62 u63 u64 u65 u66 u67 u68 u69 u70 u71 u72 u73 u74 u75 u76 u77 u78 u79 u80 u81 u82 u83 u84 u85 u86 u87 u88 u89 u90 u91 u92 u93 u94 u95 u96 u97 u98 u99 u100 u101 u102 : Value) : ∃ f, ({ tmps := #[.string s, .int .i64 (p : Nat), u2, u3, .pointer (some ⟨r, 0, none⟩), u5, u6, u7, u8, u9, u10, u11, u12, u13, u14, u15, u16, u17, u18, u19, u20, u21, u22, u23, u24, u25, u26, u27, u28, u29, u30, u31, u32, u33, u34, u35, u36, u37, u38, u39, u40, u41, u42, u43, u44, u45, u46, u47, u48, u49, u50, u51, u52, u53, u54, u55, u56, u57, u58, u59, u60, u61, u62, u63, u64, u65, u66, u67, u68, u69, u70, u71, u72, u73, u74, u75, u76, u77, u78, u79, u80, u81, u82, u83, u84, u85, u86, u87, u88, u89, u90, u91, u92, u93, u94, u95, u96, u97, u98, u99, u100, u101, u102], defers := [] } : Act) = FA s r p f := ⟨fun i => ([undef, undef, u2, u3, undef, u5, u6, u7, u8, u9, u10, u11, u12, u13, u14, u15, u16, u17, u18, u19, u20, u21, u22, u23, u24, u25, u26, u27, u28, u29, u30, u31, u32, u33, u34, u35, u36, u37, u38, u39, u40, u41, u42, u43, u44, u45, u46, u47, u48, u49, u50, u51, u52, u53, u54, u55, u56, u57, u58, u59, u60, u61, u62, u63, u64, u65, u66, u67, u68, u69, u70, u71, u72, u73, u74, u75, u76, u77, u78, u79, u80, u81, u82, u83, u84, u85, u86, u87, u88, u89, u90, u91, u92, u93, u94, u95, u96, u97, u98, u99, u100, u101, u102] : List Value)[i]?.getD undef, rfl⟩
theorem FB.mk (s : ByteArray) (r p n : Nat) (u2 u3 u6 u7 u8 u9 u10 u11 u12 u13 u14 u15 u16 u17 u18 u19 u20 u21 u22 u23 u24 u25 u26 u27 u28 u29 u30 u31 u32 u33 u34 u35 u36 u37 u38 u39 u40 u41 u42 u43 u44 u45 u46 u47 u48 u49 u50 u51 u52 u53 u54 u55 u56 u57 u58 u59 u60 u61 u62 u63 u64 u65 u66 u67 u68 u69 u70 u71 u72 u73 u74 u75 u76 u77 u78 u79 u80 u81 u82 u83 u84 u85 u86 u87 u88 u89 u90 u91 u92 u93 u94 u95 u96 u97 u98 u99 u100 u101 u102 : Value) : ∃ f, ({ tmps := #[.string s, .int .i64 (p : Nat), u2, u3, .pointer (some ⟨r, 0, none⟩), .int .i64 (n : Nat), u6, u7, u8, u9, u10, u11, u12, u13, u14, u15, u16, u17, u18, u19, u20, u21, u22, u23, u24, u25, u26, u27, u28, u29, u30, u31, u32, u33, u34, u35, u36, u37, u38, u39, u40, u41, u42, u43, u44, u45, u46, u47, u48, u49, u50, u51, u52, u53, u54, u55, u56, u57, u58, u59, u60, u61, u62, u63, u64, u65, u66, u67, u68, u69, u70, u71, u72, u73, u74, u75, u76, u77, u78, u79, u80, u81, u82, u83, u84, u85, u86, u87, u88, u89, u90, u91, u92, u93, u94, u95, u96, u97, u98, u99, u100, u101, u102], defers := [] } : Act) = FB s r p n f := ⟨fun i => ([undef, undef, u2, u3, undef, undef, u6, u7, u8, u9, u10, u11, u12, u13, u14, u15, u16, u17, u18, u19, u20, u21, u22, u23, u24, u25, u26, u27, u28, u29, u30, u31, u32, u33, u34, u35, u36, u37, u38, u39, u40, u41, u42, u43, u44, u45, u46, u47, u48, u49, u50, u51, u52, u53, u54, u55, u56, u57, u58, u59, u60, u61, u62, u63, u64, u65, u66, u67, u68, u69, u70, u71, u72, u73, u74, u75, u76, u77, u78, u79, u80, u81, u82, u83, u84, u85, u86, u87, u88, u89, u90, u91, u92, u93, u94, u95, u96, u97, u98, u99, u100, u101, u102] : List Value)[i]?.getD undef, rfl⟩
def JA (s : ByteArray) (r : Nat) (W0 : World) (Φ : Nat → Prop) (a : Act) (w : World) : Prop := w = W0 ∧ ∃ p, Φ p ∧ ∃ f, a = FA s r p f
def JB (s : ByteArray) (r : Nat) (W0 : World) (Φ : Nat → Nat → Prop) (a : Act) (w : World) : Prop := w = W0 ∧ ∃ p n, Φ p n ∧ ∃ f, a = FB s r p n f

def Rk (l : List Nat) (k M p : Nat) : Prop := (∀ q, R l (to q 0) k (to q M) p) ∧ p ≤ l.length
def N1 (l : List Nat) (k p : Nat) : Prop := ∃ M, ((M = 0 ∧ at_ l p ≠ 45 ∧ numb (at_ l p)) ∨ M = 10) ∧ Rk l k M p
def N2 (l : List Nat) (k p n : Nat) : Prop := N1 l k p ∧ Dg l p (p + n)
def N3 (l : List Nat) (k p n : Nat) : Prop := N1 l k p ∧ Dg l p (p + n) ∧ 0 < n
def N5 (l : List Nat) (k p : Nat) : Prop := ∃ M, (M = 11 ∨ (M = 12 ∧ L.digit (at_ l p) = false)) ∧ Rk l k M p
def N4 (l : List Nat) (k p n : Nat) : Prop := N5 l k (p + n)
def N6 (l : List Nat) (k p : Nat) : Prop := ∃ M, ((M = 11 ∧ at_ l p ≠ 46) ∨ (M = 12 ∧ L.digit (at_ l p) = false ∧ at_ l p ≠ 46) ∨ (M = 14 ∧ L.digit (at_ l p) = false)) ∧ Rk l k M p
theorem Rk.on {l : List Nat} {k M p M' p' : Nat} (h : Rk l k M p) (g : ∀ q, R l (to q M) p (to q M') p') : Rk l k M' p' := ⟨fun q => (h.1 q).trans (g q), (g L.start).le.2⟩
theorem N1.minus {l : List Nat} {k : Nat} (hk : k ≤ l.length) (h : at_ l k = 45) : N1 l k (k + 1) := ⟨10, Or.inr rfl, fun q => num_minus h, (num_minus (q := L.start) h).le.2⟩
theorem N1.plain {l : List Nat} {k : Nat} (hk : k ≤ l.length) (h : at_ l k ≠ 45) (hn : numb (at_ l k)) : N1 l k k := ⟨0, Or.inl ⟨rfl, h, hn⟩, fun q => R.refl hk, hk⟩
theorem N2.none {l : List Nat} {k p : Nat} (h : N2 l k p 0) : Num l k false p := fun q => by
  obtain ⟨⟨M, hM, hr⟩, hd⟩ := h
  exact Goes.fail _ (hr.1 q) (num_none hM hr.2 (by have := hd.2.2.2; rwa [Nat.add_zero] at this))
theorem N3.zero {l : List Nat} {k p n : Nat} (h : N3 l k p n) (h0 : at_ l p = 48) : N4 l k p 1 := by
  obtain ⟨⟨M, hM, hr⟩, hd, hn⟩ := h
  refine ⟨11, Or.inl rfl, hr.on fun q => num_zero ?_ h0⟩
  rcases hM with ⟨e, _⟩ | e
  · exact Or.inl e
  · exact Or.inr e
theorem N3.int {l : List Nat} {k p n : Nat} (h : N3 l k p n) (h0 : at_ l p ≠ 48) : N4 l k p n := by
  obtain ⟨⟨M, hM, hr⟩, hd, hn⟩ := h
  refine ⟨12, Or.inr ⟨rfl, hd.2.2.2⟩, hr.on fun q => num_int ?_ h0 (by omega) hd.2.1 hd.2.2.1⟩
  rcases hM with ⟨e, _⟩ | e
  · exact Or.inl e
  · exact Or.inr e
theorem N5.none {l : List Nat} {k p : Nat} (h : N5 l k p) (h0 : at_ l p ≠ 46) : N6 l k p := by
  obtain ⟨M, hM, hr⟩ := h
  rcases hM with e | ⟨e, hd⟩
  · exact ⟨M, Or.inl ⟨e, h0⟩, hr⟩
  · exact ⟨M, Or.inr (Or.inl ⟨e, hd, h0⟩), hr⟩
theorem N5.dot {l : List Nat} {k p : Nat} (h : N5 l k p) (h0 : at_ l p = 46) : Rk l k 13 (p + 1) := by
  obtain ⟨M, hM, hr⟩ := h
  refine hr.on fun q => num_dot ?_ h0
  rcases hM with e | ⟨e, _⟩
  · exact Or.inl e
  · exact Or.inr e
theorem dot_none {l : List Nat} {k p : Nat} (h : Rk l k 13 p) (hd : Dg l p (p + 0)) : Num l k false p := fun q => Goes.fail _ (h.1 q) (num_frac_none h.2 (by have := hd.2.2.2; rwa [Nat.add_zero] at this))
theorem dot_some {l : List Nat} {k p n : Nat} (h : Rk l k 13 p) (hd : Dg l p (p + n)) (hn : 0 < n) : N6 l k (p + n) := ⟨14, Or.inr (Or.inr ⟨rfl, hd.2.2.2⟩), h.on fun q => num_frac (by omega) hd.2.1 hd.2.2.1⟩
theorem N6.end_ {l : List Nat} {k p : Nat} (h : N6 l k p) (h1 : at_ l p ≠ 101) (h2 : at_ l p ≠ 69) : Rk l k 5 p := by
  obtain ⟨M, hM, hr⟩ := h
  refine ⟨fun q => (hr.1 q).like (num_end ?_), hr.2⟩
  rcases hM with ⟨e, a⟩ | ⟨e, a, b⟩ | ⟨e, a⟩
  · exact Or.inl ⟨e, a, h1, h2⟩
  · exact Or.inr (Or.inl ⟨e, a, b, h1, h2⟩)
  · exact Or.inr (Or.inr (Or.inl ⟨e, a, h1, h2⟩))
theorem N6.exp {l : List Nat} {k p : Nat} (h : N6 l k p) (h1 : at_ l p = 101 ∨ at_ l p = 69) : Rk l k 15 (p + 1) := by
  obtain ⟨M, hM, hr⟩ := h
  refine hr.on fun q => num_exp ?_ h1
  rcases hM with ⟨e, _⟩ | ⟨e, _⟩ | ⟨e, _⟩
  · exact Or.inl e
  · exact Or.inr (Or.inl e)
  · exact Or.inr (Or.inr e)
/-- Ahead of an exponent's digits. -/
def N8 (l : List Nat) (k p : Nat) : Prop := ∃ M, ((M = 15 ∧ at_ l p ≠ 43 ∧ at_ l p ≠ 45) ∨ M = 16) ∧ Rk l k M p
theorem exp_sign {l : List Nat} {k p : Nat} (h : Rk l k 15 p) (h1 : at_ l p = 43 ∨ at_ l p = 45) : N8 l k (p + 1) := ⟨16, Or.inr rfl, h.on fun q => num_sign h1⟩
theorem exp_plain {l : List Nat} {k p : Nat} (h : Rk l k 15 p) (h1 : at_ l p ≠ 43) (h2 : at_ l p ≠ 45) : N8 l k p := ⟨15, Or.inl ⟨rfl, h1, h2⟩, h⟩
theorem N8.none {l : List Nat} {k p : Nat} (h : N8 l k p) (hd : Dg l p (p + 0)) : Num l k false p := fun q => by
  obtain ⟨M, hM, hr⟩ := h
  exact Goes.fail _ (hr.1 q) (num_expd_none hM hr.2 (by have := hd.2.2.2; rwa [Nat.add_zero] at this))
theorem N8.some_ {l : List Nat} {k p n : Nat} (h : N8 l k p) (hd : Dg l p (p + n)) (hn : 0 < n) : Rk l k 5 (p + n) := by
  obtain ⟨M, hM, hr⟩ := h
  have h17 : Rk l k 17 (p + n) := hr.on fun q => num_expd (by rcases hM with ⟨e, _⟩ | e; exact Or.inl e; exact Or.inr e) (by omega) hd.2.1 hd.2.2.1
  exact ⟨fun q => (h17.1 q).like (num_end (Or.inr (Or.inr (Or.inr ⟨rfl, hd.2.2.2⟩)))), h17.2⟩

end Go.Proofs.Ytegoephanphnkaa
