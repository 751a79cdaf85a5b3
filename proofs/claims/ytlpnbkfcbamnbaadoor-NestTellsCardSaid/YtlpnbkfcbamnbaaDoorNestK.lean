/- Walks: the reference of chapter 08: Children; rows that are owned. -/
import Derived.Test.YtlpnbkfcbamnbaaDoorNestJ
import Derived.Test.YtlpnbkfcbamnbaaDoorMathY
set_option linter.unusedVariables false
set_option linter.unusedSimpArgs false
set_option maxRecDepth 100000
namespace Go.Proofs.YtlpnbkfcbamnbaaDoor
open Go.RowKit L

/-- The cells of nodes. -/
def ndW (d : Nd) : List Value := [.int .i64 d.at', .int .i64 d.en, .int .i64 d.pa, .int .i64 d.dp]
def ndC (L : List Nd) : List Value := L.flatMap ndW
theorem ndC_snoc (L : List Nd) (d : Nd) : ndC (L ++ [d]) = ndC L ++ ndW d := by unfold ndC; rw [List.flatMap_append]; simp
theorem ndC_length (L : List Nd) : (ndC L).length = L.length * 4 := by
  induction L with
  | nil => rfl
  | cons r L ih => unfold ndC at *; simp only [List.flatMap_cons, List.length_append, List.length_cons, ih]; show 4 + _ = _; omega
theorem ndC_get : ∀ (L : List Nd) (i : Nat) (d : Nd), L[i]? = some d → ∀ j, j < 4 → (ndC L)[i * 4 + j]? = (ndW d)[j]?
  | [], i, d, h, j, hj => by simp at h
  | x :: L, 0, d, h, j, hj => by
    simp at h; subst h
    rw [Nat.zero_mul, Nat.zero_add]
    unfold ndC
    rw [List.flatMap_cons, List.getElem?_append_left hj]
  | x :: L, i + 1, d, h, j, hj => by
    have ih := ndC_get L i d (by simpa using h) j hj
    unfold ndC at *
    rw [List.flatMap_cons, List.getElem?_append_right (by show 4 ≤ _; omega)]
    show (List.flatMap ndW L)[(i + 1) * 4 + j - 4]? = _
    rw [show (i + 1) * 4 + j - 4 = i * 4 + j from by omega, ih]
theorem ndC_set : ∀ (L : List Nd) (i : Nat) (d : Nd) (e : Int), L[i]? = some d → (ndC L).set (i * 4 + 1) (.int .i64 e) = ndC (L.set i ⟨d.at', e, d.pa, d.dp⟩)
  | [], i, d, e, h => by simp at h
  | x :: L, 0, d, e, h => by simp at h; subst h; rfl
  | x :: L, i + 1, d, e, h => by
    have ih := ndC_set L i d e (by simpa using h)
    unfold ndC at *
    rw [List.set_cons_succ, List.flatMap_cons, List.flatMap_cons, ← ih]
    rw [show (i + 1) * 4 + 1 = i * 4 + 1 + 1 + 1 + 1 + 1 from by omega]
    rfl
/-- Nodes that stand in a slice. -/
def NdAt (w : World) (A : Option Addr) (L : List Nd) : Prop := Lst w A (ndC L)
theorem NdAt.cells {w : World} {A : Option Addr} {L : List Nd} (h : NdAt w A L) (hp : 0 < L.length) : ∃ g o, A = some ⟨g, o, none⟩ ∧ g < w.heap.size ∧ ∀ i d, L[i]? = some d → w.cell? ⟨g, o + i * 4, none⟩ = some (.int .i64 d.at') ∧ w.cell? ⟨g, o + i * 4 + 1, none⟩ = some (.int .i64 d.en) ∧ w.cell? ⟨g, o + i * 4 + 2, none⟩ = some (.int .i64 d.pa) ∧ w.cell? ⟨g, o + i * 4 + 3, none⟩ = some (.int .i64 d.dp) := by
  obtain ⟨g, o, rfl, had, hc⟩ := Lst.lit h (by rw [ndC_length]; omega)
  refine ⟨g, o, rfl, had, fun i d hi => ⟨hc (i * 4) _ ?_, hc (i * 4 + 1) _ ?_, hc (i * 4 + 2) _ ?_, hc (i * 4 + 3) _ ?_⟩⟩
  · exact ndC_get L i d hi 0 (by omega)
  · exact ndC_get L i d hi 1 (by omega)
  · exact ndC_get L i d hi 2 (by omega)
  · exact ndC_get L i d hi 3 (by omega)
theorem cells8_snoc (l : List Int) (x : Int) : cells8 (l ++ [x]) = cells8 l ++ [.int .i64 x] := by unfold cells8; rw [List.map_append]; rfl
theorem own_mono8 {w : World} {base base' : Nat} {e : TypeId} {size : Nat} {v : Value} {n : Nat} {xs : List Value} (h : w.ownsRow base e size v n xs) (hb : base' ≤ base) : w.ownsRow base' e size v n xs :=
  ⟨h.1, h.2.imp id fun ⟨g, cap, cur, h1, h2, h3⟩ => ⟨g, cap, cur, h1, Nat.le_trans hb h2, h3⟩⟩

def intsL (l : List Nat) : List Int := l.map fun k : Nat => (k : Int)
theorem intsL_length (l : List Nat) : (intsL l).length = l.length := by unfold intsL; simp
theorem intsL_get {l : List Nat} {i k : Nat} (h : l[i]? = some k) : (intsL l)[i]? = some (k : Int) := by unfold intsL; rw [List.getElem?_map, h]; rfl

theorem intsL_snoc (l : List Nat) (k : Nat) : intsL (l ++ [k]) = intsL l ++ [(k : Int)] := by unfold intsL; rw [List.map_append]; rfl
theorem filter_step (p : Nat → Bool) (k : Nat) : (List.range (k + 1)).filter p = (List.range k).filter p ++ (if p k then [k] else []) := by
  rw [List.range_succ, List.filter_append]
  congr 1
  cases h : p k <;> simp [h]

set_option maxHeartbeats 1000000 in
theorem refChildren_any (A : Option Addr) (c : Nat) (L : List Nd) (n : Int) (w : World) (hl : NdAt w A L) (hsm : L.length ≤ 1000000) :
    Calls Tryd.prog 96 #[.slice A L.length c, .int .i64 n] w fun e w' => ∃ A1 c1, e = .returned (.slice A1 ((List.range L.length).filter fun k => ((L[k]?.map Nd.pa).getD 0 == n)).length c1) ∧ Lst w' A1 (cells8 (intsL ((List.range L.length).filter fun k => ((L[k]?.map Nd.pa).getD 0 == n)))) ∧ Below w.heap.size w w' := by
  obtain ⟨i0, hi0, iz0, iz1, iz2⟩ := info_parts Tryd.infoInt
  go_enter Tryd.func96, Tryd.ntmps96
  go_wp2_with fail
  go_loopw [5, 6] (fun ov kv wr => ∃ (k : Nat) (Ao : Option Addr) (co : Nat), k ≤ L.length ∧ kv = .int .i64 (k : Nat) ∧ ov = .slice Ao ((List.range k).filter fun k => ((L[k]?.map Nd.pa).getD 0 == n)).length co ∧ wr.ownsRow w.heap.size 3 1 (.slice Ao ((List.range k).filter fun k => ((L[k]?.map Nd.pa).getD 0 == n)).length co) ((List.range k).filter fun k => ((L[k]?.map Nd.pa).getD 0 == n)).length (cells8 (intsL ((List.range k).filter fun k => ((L[k]?.map Nd.pa).getD 0 == n)))) ∧ Below w.heap.size w wr) (fun _ kv _ => L.length - (intOf kv).toNat)
  case atStart => exact ⟨0, none, 0, Nat.zero_le _, rfl, rfl, World.ownsRow_nil _ _ _ _, Below.refl _ _⟩
  case round =>
    obtain ⟨k, Ao, co, hk, rfl, rfl, hown, hB⟩ := hrel
    have hsz := hB.size
    rcases Nat.lt_or_ge k L.length with hlt | hge
    · have hkI : (k : Int) < (L.length : Int) := by omega
      have hk0 : (0 : Int) ≤ (k : Int) := by omega
      obtain ⟨g, o, rfl, hg, hc⟩ := (show NdAt wr A L from Lst.below hl hB).cells (by omega)
      have hgl : L[k]? = some L[k] := List.getElem?_eq_getElem hlt
      obtain ⟨_, _, c2, _⟩ := hc k L[k] hgl
      have HST := hid (filter_step (fun k => ((L[k]?.map Nd.pa).getD 0 == n)) k)
      have HPV : ((L[k]?.map Nd.pa).getD 0 == n) = (L[k].pa == n) := by rw [hgl]; rfl
      have HFL := hid (show ((List.range k).filter fun k => ((L[k]?.map Nd.pa).getD 0 == n)).length ≤ k from by have := List.length_filter_le (fun k => ((L[k]?.map Nd.pa).getD 0 == n)) (List.range k); rwa [List.length_range] at this)
      rw [HPV] at HST
      generalize L[k].pa = v at *
      obtain ⟨F, hF⟩ : ∃ F, F = (List.range k).filter fun k => ((L[k]?.map Nd.pa).getD 0 == n) := ⟨_, rfl⟩
      rw [← hF] at hown HST HFL ⊢
      clear hF HPV hc
      cases hb : (v == n) with
      | true =>
        rw [hb] at HST
        have hFl := HFL.out
        go_wp2_with (at_builtin
                     go_must (refine wpList_append_own_at _ rfl (.tmp 20) (.tmp 22) 22 rfl w.heap.size 3 i0 _ 1 8 Tryd.underlying22 hi0 iz0 iz1 iz2 rfl (by decide) (.slice Ao F.length co) F.length _ rfl (hown.alloc _) ⟨wr.heap.size, 0, none⟩ 1 1 [.int .i64 (k : Nat)] rfl rfl (cell_one_new _ _ _) ?hone ?h63 ?hby ?hbs ?_)
                     go_must (case hone => simp [Value.oneCell'])
                     go_must (case h63 => simp only [maxLen]; omega)
                     go_must (case hby => omega)
                     go_must (case hbs => simp; omega)
                     intro v2 w4 hown4 hgr4 _ hat4)
        obtain ⟨A4, c4, rfl⟩ := own_slice hown4
        have hB4 : Below w.heap.size w w4 := (hB.alloc hsz _).grown hgr4 (by simp; omega) (fun k hk => (hown.lt k hk).1)
        go_roundw
        case rel => exact ⟨k + 1, A4, c4, by omega, by go_num, by rw [HST.out]; simp, by rw [HST.out, if_pos rfl, intsL_snoc, cells8_snoc, List.length_append]; exact hown4, hB4⟩
        case measure => simp [intOf]; omega
      | false =>
        rw [hb] at HST
        go_wp2_with fail
        exact ⟨⟨k + 1, Ao, co, by omega, by go_num, by rw [HST.out]; simp, by rw [HST.out]; simpa using hown, hB⟩, by simp [intOf]; omega⟩
    · obtain rfl : k = L.length := by omega
      have hkI : ¬ ((L.length : Int) < (L.length : Int)) := by omega
      go_wp2_with fail
      go_ret
      exact ⟨Ao, ⟨co, rfl⟩, Lst.of_own hown (by omega), hB⟩
end Go.Proofs.YtlpnbkfcbamnbaaDoor
