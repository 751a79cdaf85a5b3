/- From a row's reading of the arguments to words of our own: structs of three ints. No program. -/
import Derived.Test.YtdhokioiloggeaaOpen
import Derived.Lib.SmallJoins
set_option linter.unusedVariables false
set_option linter.unusedSimpArgs false
namespace Go.Proofs.Ytdhokioiloggeaa
open Go.ChangeShapes Go.WideShapes Go.ChangeAt Go.RowKit Go.Deep

section
variable {H : Type} {enc : TypeId × Value → H} {P : Program} {w : World} {base : Nat} {spare : Nat → Bool} {held : Bool}

theorem opn_int3 {r : Reach} {b0 : Nat} {t : TypeId} {f0 f1 f2 : Field} {v : Value} {d : DataW H} {p : List MemPlace} (hs : P.underlying t = some (.struct #[f0, f1, f2])) (hone : oneCellFields P #[f0, f1, f2] = true) (hC : P.cellsOf t = 3)
    (h0 : P.underlying f0.type = some (.int .i64)) (h1 : P.underlying f1.type = some (.int .i64)) (h2 : P.underlying f2.type = some (.int .i64))
    (hv : Value.okWide P w r b0 t v) (h : DataW.Trod enc P w base spare held t v d p) :
    ∃ a b c : Int, v = .agg #[.int .i64 a, .int .i64 b, .int .i64 c] ∧ (-9223372036854775808 ≤ a ∧ a ≤ 9223372036854775807) ∧ (-9223372036854775808 ≤ b ∧ b ≤ 9223372036854775807) ∧ (-9223372036854775808 ≤ c ∧ c ≤ 9223372036854775807) := by
  obtain ⟨v0, v1, v2, y0, y1, y2, n, rfl, _, _, g0, g1, g2⟩ := Go.Joins.open_agg3 hs hone hC hv h
  obtain ⟨a, ea, _, wa⟩ := DataW.trod_int h0 g0
  obtain ⟨b, eb, _, wb⟩ := DataW.trod_int h1 g1
  obtain ⟨c, ec, _, wc⟩ := DataW.trod_int h2 g2
  simp at ea eb ec
  subst ea eb ec
  exact ⟨a, b, c, rfl, bounds_i64 wa, bounds_i64 wb, bounds_i64 wc⟩

theorem opn_asks {r : Reach} {b0 : Nat} {t e : TypeId} {f0 f1 f2 : Field} {v : Value} {d : DataW H} {ps : List MemPlace} (ht : P.underlying t = some (.slice e)) (he : P.underlying e = some (.struct #[f0, f1, f2])) (hC : P.cellsOf e = 3)
    (h0 : P.underlying f0.type = some (.int .i64)) (h1 : P.underlying f1.type = some (.int .i64)) (h2 : P.underlying f2.type = some (.int .i64)) (hone : oneCellFields P #[f0, f1, f2] = true) (hval : Value.okWide P w r b0 t v) (hd : DataW.Trod enc P w base spare held t v d ps) :
    ∃ (A : Option Addr) (l : List (Int × Int × Int)) (c : Nat), v = .slice A l.length c ∧ Lst w A (l.flatMap fun o => [.int .i64 o.1, .int .i64 o.2.1, .int .i64 o.2.2]) ∧ l.length ≤ maxLen ∧
      ∀ o ∈ l, (-9223372036854775808 ≤ o.1 ∧ o.1 ≤ 9223372036854775807) ∧ (-9223372036854775808 ≤ o.2.1 ∧ o.2.1 ≤ 9223372036854775807) ∧ (-9223372036854775808 ≤ o.2.2 ∧ o.2.2 ≤ 9223372036854775807) := by
  obtain ⟨A, css, c, rfl, hl, hc, hm, hcs⟩ := opn_slice ht hval hd
  obtain ⟨l, rfl, hp⟩ := map_of_all (f := fun o : Int × Int × Int => [Value.int .i64 o.1, Value.int .i64 o.2.1, Value.int .i64 o.2.2]) (p := fun o => (-9223372036854775808 ≤ o.1 ∧ o.1 ≤ 9223372036854775807) ∧ (-9223372036854775808 ≤ o.2.1 ∧ o.2.1 ≤ 9223372036854775807) ∧ (-9223372036854775808 ≤ o.2.2 ∧ o.2.2 ≤ 9223372036854775807)) css (fun cs h => by
    obtain ⟨hlen, fuel, x, hx⟩ := hcs cs h
    obtain ⟨xs, n, _, _, _, _, hg⟩ := DataW.trod_struct he hx
    obtain ⟨o0, k0⟩ := hone_of hone 0 f0 rfl
    obtain ⟨o1, k1⟩ := hone_of hone 1 f1 rfl
    obtain ⟨o2, k2⟩ := hone_of hone 2 f2 rfl
    match cs, hlen.trans hC with
    | [c0, c1, c2], _ =>
      have g0 := hg 0 f0 rfl
      have g1 := hg 1 f1 rfl
      have g2 := hg 2 f2 rfl
      rw [o0, k0] at g0
      rw [o1, k1] at g1
      rw [o2, k2] at g2
      have hx0 : ∃ y, xs[0]? = some y := ⟨_, List.getElem?_eq_getElem (by simp_all)⟩
      have hx1 : ∃ y, xs[1]? = some y := ⟨_, List.getElem?_eq_getElem (by simp_all)⟩
      have hx2 : ∃ y, xs[2]? = some y := ⟨_, List.getElem?_eq_getElem (by simp_all)⟩
      obtain ⟨y0, hy0⟩ := hx0
      obtain ⟨y1, hy1⟩ := hx1
      obtain ⟨y2, hy2⟩ := hx2
      rw [hy0] at g0
      rw [hy1] at g1
      rw [hy2] at g2
      obtain ⟨a, ea, _, wa⟩ := DataW.trod_int h0 g0
      obtain ⟨b, eb, _, wb⟩ := DataW.trod_int h1 g1
      obtain ⟨d, ed, _, wd⟩ := DataW.trod_int h2 g2
      simp at ea eb ed
      subst ea eb ed
      exact ⟨(a, b, d), rfl, bounds_i64 wa, bounds_i64 wb, bounds_i64 wd⟩)
  exact ⟨A, l, c, by simp, by simpa [List.flatMap] using hl, by simp at hc; omega, hp⟩
end

end Go.Proofs.Ytdhokioiloggeaa
