/- From a row's reading of the arguments to words of our own, and back: for laws that only make memory. No program. -/
import Derived.Test.YtgpbpgpolpakjaaGreatDoorBase
import Derived.ProofKit
import Derived.OpenShut
import Derived.Deep.Slices
import Derived.Deep.Fields
set_option linter.unusedVariables false
set_option linter.unusedSimpArgs false
namespace Go.Proofs.YtgpbpgpolpakjaaGreatDoor
open Go.ChangeShapes Go.WideShapes Go.ChangeAt Go.RowKit Go.Deep

section
variable {H : Type} {enc : TypeId × Value → H} {P : Program} {w : World} {base : Nat} {spare : Nat → Bool} {held : Bool}

theorem lst_flatten (a : Addr) (C : Nat) : ∀ (css : List (List Value)) (k : Nat), (∀ i cs, css[i]? = some cs → cs.length = C ∧ ∀ j, j < C → w.cell? ((a.add ((k + i) * C)).add j) = cs[j]?) → Lst w (some (a.add (k * C))) css.flatten
  | [], k, _ => Lst.nil_ _ _
  | cs :: css, k, h => by
    obtain ⟨h1, h2⟩ := h 0 cs rfl
    have ih := lst_flatten a C css (k + 1) (fun i c hc => by
      have := h (i + 1) c (by simpa using hc)
      rwa [show k + (i + 1) = k + 1 + i from by omega] at this)
    intro i u hu
    rw [List.flatten_cons] at hu
    refine ⟨_, rfl, ?_⟩
    rcases Nat.lt_or_ge i C with hi | hi
    · rw [List.getElem?_append_left (by omega)] at hu
      have := h2 i hi
      simp only [Nat.add_zero] at this
      rw [this, hu]
    · rw [List.getElem?_append_right (by omega), h1] at hu
      have := ih.addr hu
      rw [add_of_add] at this ⊢
      rwa [show (k + 1) * C + (i - C) = k * C + i from by rw [Nat.add_mul]; omega] at this

/-- An argument that is a slice: its elements' cells, in order, each with its own reading. -/
theorem opn_slice {r : Reach} {b0 : Nat} {t e : TypeId} {v : Value} {d : DataW H} {ps : List MemPlace} (ht : P.underlying t = some (.slice e)) (hval : Value.okWide P w r b0 t v) (hd : DataW.Trod enc P w base spare held t v d ps) :
    ∃ (A : Option Addr) (css : List (List Value)) (c : Nat), v = .slice A css.length c ∧ Lst w A css.flatten ∧ css.length ≤ c ∧ c ≤ maxLen ∧ ∀ cs ∈ css, cs.length = P.cellsOf e ∧ ∃ fuel x, DataW.trod enc P w base spare held fuel e cs = some x := by
  obtain ⟨a0, len, cap, rfl⟩ := okWide_slice ht hval
  obtain ⟨fuel, hf⟩ := hd
  rcases open_slice ht hf with ⟨hcs, hx⟩ | ⟨a, len', cap', m, n, D, Pl, hcs, hb, hl, hm, hmm, hx, hi⟩
  · simp [Value.cells] at hcs
    obtain ⟨rfl, rfl, rfl⟩ := hcs
    exact ⟨none, [], 0, rfl, Lst.nil_ _ _, by simp, by simp, by simp⟩
  · simp [Value.cells] at hcs
    obtain ⟨rfl, rfl, rfl⟩ := hcs
    have hlm : len ≤ m := by rw [hmm]; split <;> omega
    have hex : ∀ i : Nat, ∃ cs, i < len → cs.length = P.cellsOf e ∧ (∀ j, j < P.cellsOf e → w.cell? ((a.add (i * P.cellsOf e)).add j) = cs[j]?) ∧ ∃ fuel x, DataW.trod enc P w base spare held fuel e cs = some x := by
      intro i
      by_cases h : i < len
      · obtain ⟨cs', hc, ht'⟩ := hi i (by omega)
        obtain ⟨_, h1, h2⟩ := World.cells?_some hc
        exact ⟨cs', fun _ => ⟨h1, h2, n, _, ht'⟩⟩
      · exact ⟨[], fun h' => absurd h' h⟩
    let css := (List.range len).map fun i => Classical.choose (hex i)
    have hlen : css.length = len := by simp [css]
    have hget : ∀ i cs, css[i]? = some cs → cs.length = P.cellsOf e ∧ (∀ j, j < P.cellsOf e → w.cell? ((a.add (i * P.cellsOf e)).add j) = cs[j]?) ∧ ∃ fuel x, DataW.trod enc P w base spare held fuel e cs = some x := by
      intro i cs hc
      have hil : i < len := by have := (List.getElem?_eq_some_iff.1 hc).1; omega
      have : cs = Classical.choose (hex i) := by
        have h := hc
        simp only [css, List.getElem?_map, List.getElem?_range hil, Option.map_some, Option.some.injEq] at h
        exact h.symm
      rw [this]
      exact Classical.choose_spec (hex i) hil
    refine ⟨some a, css, cap, by rw [hlen], ?_, by omega, hm, fun cs hc => ?_⟩
    · have := lst_flatten (w := w) a (P.cellsOf e) css 0 (fun i cs hc => by
        have := hget i cs hc
        simp only [Nat.zero_add]
        exact ⟨this.1, this.2.1⟩)
      simpa [Addr.add] using this
    · obtain ⟨i, hi', rfl⟩ := List.getElem_of_mem hc
      have := hget i _ (List.getElem?_eq_getElem hi')
      exact ⟨this.1, this.2.2⟩

theorem map_of_all {α β : Type} {f : α → β} {p : α → Prop} : ∀ (l : List β), (∀ b ∈ l, ∃ a, b = f a ∧ p a) → ∃ l' : List α, l = l'.map f ∧ ∀ a ∈ l', p a
  | [], _ => ⟨[], rfl, by simp⟩
  | b :: l, h => by
    obtain ⟨a, rfl, ha⟩ := h b List.mem_cons_self
    obtain ⟨l', rfl, hl⟩ := map_of_all l (fun b hb => h b (List.mem_cons_of_mem _ hb))
    exact ⟨a :: l', rfl, by simpa using ⟨ha, hl⟩⟩

theorem flatten_single {α β : Type} (f : α → β) : ∀ l : List α, (l.map fun a => [f a]).flatten = l.map f
  | [] => rfl
  | a :: l => by simp [flatten_single f l]

theorem opn_bools {r : Reach} {b0 : Nat} {t e : TypeId} {v : Value} {d : DataW H} {ps : List MemPlace} (ht : P.underlying t = some (.slice e)) (he : P.underlying e = some .bool) (hval : Value.okWide P w r b0 t v) (hd : DataW.Trod enc P w base spare held t v d ps) :
    ∃ (A : Option Addr) (l : List Bool) (c : Nat), v = .slice A l.length c ∧ Lst w A (l.map Value.bool) ∧ l.length ≤ maxLen := by
  obtain ⟨A, css, c, rfl, hl, hc, hm, hcs⟩ := opn_slice ht hval hd
  obtain ⟨l, rfl, _⟩ := map_of_all (f := fun b => [Value.bool b]) (p := fun _ => True) css (fun cs h => by
    obtain ⟨_, fuel, x, hx⟩ := hcs cs h
    obtain ⟨b, rfl, _⟩ := DataW.trod_bool he hx
    exact ⟨b, rfl, trivial⟩)
  rw [flatten_single] at hl
  exact ⟨A, l, c, by simp, hl, by simp at hc; omega⟩

theorem opn_ints {r : Reach} {b0 : Nat} {k : IntKind} {t e : TypeId} {v : Value} {d : DataW H} {ps : List MemPlace} (ht : P.underlying t = some (.slice e)) (he : P.underlying e = some (.int k)) (hval : Value.okWide P w r b0 t v) (hd : DataW.Trod enc P w base spare held t v d ps) :
    ∃ (A : Option Addr) (l : List Int) (c : Nat), v = .slice A l.length c ∧ Lst w A (l.map (Value.int k)) ∧ l.length ≤ maxLen ∧ ∀ z ∈ l, (Lit.int k z).wf = true := by
  obtain ⟨A, css, c, rfl, hl, hc, hm, hcs⟩ := opn_slice ht hval hd
  obtain ⟨l, rfl, hp⟩ := map_of_all (f := fun b => [Value.int k b]) (p := fun z => (Lit.int k z).wf = true) css (fun cs h => by
    obtain ⟨_, fuel, x, hx⟩ := hcs cs h
    obtain ⟨b, rfl, _, hw⟩ := DataW.trod_int he hx
    exact ⟨b, rfl, hw⟩)
  rw [flatten_single] at hl
  exact ⟨A, l, c, by simp, hl, by simp at hc; omega, hp⟩

/-- A slice of structs of a uint64 and an int. -/
theorem opn_ops {r : Reach} {b0 : Nat} {t e : TypeId} {f0 f1 : Field} {v : Value} {d : DataW H} {ps : List MemPlace} (ht : P.underlying t = some (.slice e)) (he : P.underlying e = some (.struct #[f0, f1])) (hC : P.cellsOf e = 2)
    (h0 : P.underlying f0.type = some (.int .u64)) (h1 : P.underlying f1.type = some (.int .i64)) (hone : oneCellFields P #[f0, f1] = true) (hval : Value.okWide P w r b0 t v) (hd : DataW.Trod enc P w base spare held t v d ps) :
    ∃ (A : Option Addr) (l : List (Nat × Int)) (c : Nat), v = .slice A l.length c ∧ Lst w A (l.flatMap fun o => [.int .u64 (o.1 : Nat), .int .i64 o.2]) ∧ l.length ≤ maxLen ∧ ∀ o ∈ l, o.1 < 18446744073709551616 ∧ -9223372036854775808 ≤ o.2 ∧ o.2 ≤ 9223372036854775807 := by
  obtain ⟨A, css, c, rfl, hl, hc, hm, hcs⟩ := opn_slice ht hval hd
  obtain ⟨l, rfl, hp⟩ := map_of_all (f := fun o : Nat × Int => [Value.int .u64 (o.1 : Nat), Value.int .i64 o.2]) (p := fun o => o.1 < 18446744073709551616 ∧ -9223372036854775808 ≤ o.2 ∧ o.2 ≤ 9223372036854775807) css (fun cs h => by
    obtain ⟨hlen, fuel, x, hx⟩ := hcs cs h
    obtain ⟨xs, n, _, _, _, _, hg⟩ := DataW.trod_struct he hx
    obtain ⟨o0, k0⟩ := hone_of hone 0 f0 rfl
    obtain ⟨o1, k1⟩ := hone_of hone 1 f1 rfl
    match cs, hlen.trans hC with
    | [c0, c1], _ =>
      have g0 := hg 0 f0 rfl
      have g1 := hg 1 f1 rfl
      rw [o0, k0] at g0
      rw [o1, k1] at g1
      have hx0 : ∃ y, xs[0]? = some y := ⟨_, List.getElem?_eq_getElem (by simp_all)⟩
      have hx1 : ∃ y, xs[1]? = some y := ⟨_, List.getElem?_eq_getElem (by simp_all)⟩
      obtain ⟨y0, hy0⟩ := hx0
      obtain ⟨y1, hy1⟩ := hx1
      rw [hy0] at g0
      rw [hy1] at g1
      obtain ⟨a, ea, _, wa⟩ := DataW.trod_int h0 g0
      obtain ⟨b, eb, _, wb⟩ := DataW.trod_int h1 g1
      simp at ea eb
      subst ea eb
      have ba := bounds_u64 wa
      have bb := bounds_i64 wb
      obtain ⟨n, rfl⟩ := Int.eq_ofNat_of_zero_le ba.1
      exact ⟨(n, b), rfl, by simp only; omega, by simpa using bb⟩)
  exact ⟨A, l, c, by simp, by simpa [List.flatMap] using hl, by simp at hc; omega, hp⟩
end

section
variable {H : Type} {enc : TypeId × Value → H} {P : Program}
theorem trodAll_below (hl : laidOutB P = true) {W W' : World} (hb : Below W.heap.size W W') : ∀ {ts : List TypeId} {vs : List Value} {ds : List (DataW H)} {ps : List MemPlace}, (∀ t ∈ ts, P.readableRec t = true ∧ t < P.types.size) →
    DataW.TrodAll enc P W 0 (fun _ => true) true ts vs ds ps → (∀ x ∈ ps, x.block < W.heap.size) → DataW.TrodAll enc P W' 0 (fun b => decide (b < W.heap.size)) true ts vs ds ps
  | [], vs, ds, ps, _, h, _ => by
    cases vs <;> cases ds <;> simp [DataW.TrodAll] at h ⊢
    exact h
  | t :: ts, vs, ds, ps, hr, h, hlt => by
    obtain ⟨v, vs', d, ds', p, q, rfl, rfl, rfl, h1, h2⟩ := trodAll_cons h
    have r1 := hr t List.mem_cons_self
    exact trodAll_cons_mk (Below.trod hl r1.1 r1.2 h1 hb (fun x hx => hlt x (List.mem_append_left _ hx))) (trodAll_below hl hb (fun t ht => hr t (List.mem_cons_of_mem _ ht)) h2 (fun x hx => hlt x (List.mem_append_right _ hx)))

/-- What a law leaves that only makes memory: true; each argument reads as it did. -/
theorem law_post {f : Func} {s : ChangeSpec} {W W' : World} {args : Array Value} {tb : TypeId} {ds gs : List (DataW H)} {before : List MemPlace} (hl : laidOutB P = true) (hv : s.vars = []) (hrd : ∀ t ∈ f.params.toList, P.readableRec t = true ∧ t < P.types.size)
    (hrt : f.resultTypes = #[tb]) (htb : P.underlying tb = some .bool) (hW : DataW.Whole enc P f.params.toList s.vars false W args.toList ds gs before) (hb : Below W.heap.size W W')
    (hs : (s.fn H (ds ++ gs)).results = [.lit (.bool true)]) (hsa : (s.fn H (ds ++ gs)).args = ds) (hsv : (s.fn H (ds ++ gs)).vars = []) : s.post enc P f false true false false W args (.bool true) W' := by
  have hW' := hW
  obtain ⟨p, q, hA, hV, rfl, hfz, hnd⟩ := hW
  have hgs : gs = [] ∧ q = [] := by rw [hv] at hV; exact trodVars_none hV
  obtain ⟨rfl, rfl⟩ := hgs
  have hlt : ∀ x ∈ p, x.block < W.heap.size := fun x hx => hW'.lt x (by simpa using hx)
  refine ⟨ds, [], p ++ [], [], p, [], hW', ?_, ?_, ?_, ?_, fun h => by cases h⟩
  · rw [hs, hrt]
    exact trodAll_mk1 (shut_bool htb true)
  · rw [hsa]
    exact trodAll_below hl hb hrd hA hlt
  · rw [hsv, hv]; rfl
  · exact hb.frame _
end

end Go.Proofs.YtgpbpgpolpakjaaGreatDoor
