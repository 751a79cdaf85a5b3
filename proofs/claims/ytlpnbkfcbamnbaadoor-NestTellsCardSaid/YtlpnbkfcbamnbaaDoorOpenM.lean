/- From a row's reading of the arguments to words of our own: structs of a bool and a uint16, structs of two ints. No program. -/
import Derived.Test.YtlpnbkfcbamnbaaDoorOpen
import Derived.Lib.SmallJoins
set_option linter.unusedVariables false
set_option linter.unusedSimpArgs false
namespace Go.Proofs.YtlpnbkfcbamnbaaDoor
open Go.ChangeShapes Go.WideShapes Go.ChangeAt Go.RowKit Go.Deep

section
variable {H : Type} {enc : TypeId × Value → H} {P : Program} {w : World} {base : Nat} {spare : Nat → Bool} {held : Bool}

theorem opn_pieces {r : Reach} {b0 : Nat} {t e : TypeId} {f0 f1 : Field} {v : Value} {d : DataW H} {ps : List MemPlace} (ht : P.underlying t = some (.slice e)) (he : P.underlying e = some (.struct #[f0, f1])) (hC : P.cellsOf e = 2)
    (h0 : P.underlying f0.type = some .bool) (h1 : P.underlying f1.type = some (.int .u16)) (hone : oneCellFields P #[f0, f1] = true) (hval : Value.okWide P w r b0 t v) (hd : DataW.Trod enc P w base spare held t v d ps) :
    ∃ (A : Option Addr) (l : List (Bool × Nat)) (c : Nat), v = .slice A l.length c ∧ Lst w A (l.flatMap fun o => [.bool o.1, .int .u16 (o.2 : Nat)]) ∧ l.length ≤ maxLen ∧ ∀ o ∈ l, o.2 < 65536 := by
  obtain ⟨A, css, c, rfl, hl, hc, hm, hcs⟩ := opn_slice ht hval hd
  obtain ⟨l, rfl, hp⟩ := map_of_all (f := fun o : Bool × Nat => [Value.bool o.1, Value.int .u16 (o.2 : Nat)]) (p := fun o => o.2 < 65536) css (fun cs h => by
    obtain ⟨hlen, fuel, x, hx⟩ := hcs cs h
    obtain ⟨xs, n, _, _, _, _, hg⟩ := DataW.trod_struct he hx
    obtain ⟨o0, k0⟩ := hone_of hone 0 f0 rfl
    obtain ⟨o1, k1⟩ := hone_of hone 1 f1 rfl
    match cs, hlen.trans hC with
    | [c0, c1], _ =>
      have g0 := hg 0 f0 rfl
      have g1 := hg 1 f1 rfl
      rw [o0, k0] at g0
      rw [o1, k1] at g1
      have hx0 : ∃ y, xs[0]? = some y := ⟨_, List.getElem?_eq_getElem (by simp_all)⟩
      have hx1 : ∃ y, xs[1]? = some y := ⟨_, List.getElem?_eq_getElem (by simp_all)⟩
      obtain ⟨y0, hy0⟩ := hx0
      obtain ⟨y1, hy1⟩ := hx1
      rw [hy0] at g0
      rw [hy1] at g1
      obtain ⟨a, ea, _⟩ := DataW.trod_bool h0 g0
      obtain ⟨b, eb, _, wb⟩ := DataW.trod_int h1 g1
      simp at ea eb
      subst ea eb
      have bb := bounds_u16 wb
      obtain ⟨n, rfl⟩ := Int.eq_ofNat_of_zero_le bb.1
      exact ⟨(a, n), rfl, by simp only; omega⟩)
  exact ⟨A, l, c, by simp, by simpa [List.flatMap] using hl, by simp at hc; omega, hp⟩

theorem opn_ask2s {r : Reach} {b0 : Nat} {t e : TypeId} {f0 f1 : Field} {v : Value} {d : DataW H} {ps : List MemPlace} (ht : P.underlying t = some (.slice e)) (he : P.underlying e = some (.struct #[f0, f1])) (hC : P.cellsOf e = 2)
    (h0 : P.underlying f0.type = some (.int .i64)) (h1 : P.underlying f1.type = some (.int .i64)) (hone : oneCellFields P #[f0, f1] = true) (hval : Value.okWide P w r b0 t v) (hd : DataW.Trod enc P w base spare held t v d ps) :
    ∃ (A : Option Addr) (l : List (Int × Int)) (c : Nat), v = .slice A l.length c ∧ Lst w A (l.flatMap fun o => [.int .i64 o.1, .int .i64 o.2]) ∧ l.length ≤ maxLen ∧ ∀ o ∈ l, (-9223372036854775808 ≤ o.1 ∧ o.1 ≤ 9223372036854775807) ∧ (-9223372036854775808 ≤ o.2 ∧ o.2 ≤ 9223372036854775807) := by
  obtain ⟨A, css, c, rfl, hl, hc, hm, hcs⟩ := opn_slice ht hval hd
  obtain ⟨l, rfl, hp⟩ := map_of_all (f := fun o : Int × Int => [Value.int .i64 o.1, Value.int .i64 o.2]) (p := fun o => (-9223372036854775808 ≤ o.1 ∧ o.1 ≤ 9223372036854775807) ∧ (-9223372036854775808 ≤ o.2 ∧ o.2 ≤ 9223372036854775807)) css (fun cs h => by
    obtain ⟨hlen, fuel, x, hx⟩ := hcs cs h
    obtain ⟨xs, n, _, _, _, _, hg⟩ := DataW.trod_struct he hx
    obtain ⟨o0, k0⟩ := hone_of hone 0 f0 rfl
    obtain ⟨o1, k1⟩ := hone_of hone 1 f1 rfl
    match cs, hlen.trans hC with
    | [c0, c1], _ =>
      have g0 := hg 0 f0 rfl
      have g1 := hg 1 f1 rfl
      rw [o0, k0] at g0
      rw [o1, k1] at g1
      have hx0 : ∃ y, xs[0]? = some y := ⟨_, List.getElem?_eq_getElem (by simp_all)⟩
      have hx1 : ∃ y, xs[1]? = some y := ⟨_, List.getElem?_eq_getElem (by simp_all)⟩
      obtain ⟨y0, hy0⟩ := hx0
      obtain ⟨y1, hy1⟩ := hx1
      rw [hy0] at g0
      rw [hy1] at g1
      obtain ⟨a, ea, _, wa⟩ := DataW.trod_int h0 g0
      obtain ⟨b, eb, _, wb⟩ := DataW.trod_int h1 g1
      simp at ea eb
      subst ea eb
      exact ⟨(a, b), rfl, bounds_i64 wa, bounds_i64 wb⟩)
  exact ⟨A, l, c, by simp, by simpa [List.flatMap] using hl, by simp at hc; omega, hp⟩

theorem opn_ask2 {r : Reach} {b0 : Nat} {t : TypeId} {f0 f1 : Field} {v : Value} {d : DataW H} {p : List MemPlace} (hs : P.underlying t = some (.struct #[f0, f1])) (hone : oneCellFields P #[f0, f1] = true) (hC : P.cellsOf t = 2)
    (h0 : P.underlying f0.type = some (.int .i64)) (h1 : P.underlying f1.type = some (.int .i64))
    (hv : Value.okWide P w r b0 t v) (h : DataW.Trod enc P w base spare held t v d p) :
    ∃ a b : Int, v = .agg #[.int .i64 a, .int .i64 b] ∧ (-9223372036854775808 ≤ a ∧ a ≤ 9223372036854775807) ∧ (-9223372036854775808 ≤ b ∧ b ≤ 9223372036854775807) := by
  obtain ⟨v0, v1, y0, y1, n, rfl, _, _, g0, g1⟩ := Go.Joins.open_agg2 hs hone hC hv h
  obtain ⟨a, ea, _, wa⟩ := DataW.trod_int h0 g0
  obtain ⟨b, eb, _, wb⟩ := DataW.trod_int h1 g1
  simp at ea eb
  subst ea eb
  exact ⟨a, b, rfl, bounds_i64 wa, bounds_i64 wb⟩
end
end Go.Proofs.YtlpnbkfcbamnbaaDoor
