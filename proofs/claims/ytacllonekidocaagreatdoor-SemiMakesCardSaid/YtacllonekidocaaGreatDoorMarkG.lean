/- Plain laws: the marks of a text by its bytes' places: which stand in a string. No program in sight. -/
import Derived.Test.YtacllonekidocaaGreatDoorMarkP
set_option linter.unusedVariables false
set_option linter.unusedSimpArgs false
namespace Go.Proofs.YtacllonekidocaaGreatDoor.L

/-- The state ahead of a byte. -/
def stA (l : List Nat) (i : Nat) : Nat := mrun 0 (l.take i)
theorem stA_zero (l : List Nat) : stA l 0 = 0 := rfl
theorem stA_step {l : List Nat} {i : Nat} (h : i < l.length) : stA l (i + 1) = mstep (stA l i) (at_ l i) := by
  unfold stA
  rw [List.take_succ_eq_append_getElem h, mrun_append]
  have e := at_get h
  rw [List.getElem?_eq_getElem h] at e
  rw [Option.some.inj e]; rfl
/-- Does a byte stand in a string, its quotes among it? -/
def insB (l : List Nat) (i : Nat) : Bool := !(stA l i == 0 && !(at_ l i == 34))
theorem insB_out {l : List Nat} {i : Nat} (h : stA l i = 0) (hc : at_ l i ≠ 34) : insB l i = false := by unfold insB; simp [h, hc]
theorem insB_in {l : List Nat} {i : Nat} (h : stA l i ≠ 0) : insB l i = true := by unfold insB; simp [h]
theorem insB_quote {l : List Nat} {i : Nat} (h : at_ l i = 34) : insB l i = true := by unfold insB; simp [h]
theorem mark_at {l : List Nat} {i : Nat} : isMk (stA l i) (at_ l i) = (!insB l i && isM (at_ l i)) := by
  unfold isMk insB
  by_cases hc : at_ l i = 34
  · rw [hc]
    have : isM 34 = false := rfl
    simp [this]
  · have hb : (at_ l i == 34) = false := beq_eq_false_iff_ne.2 hc
    rw [hb]
    cases stA l i == 0 <;> simp
theorem mkGo_range : ∀ (l : List Nat) (s p : Nat), mkGo s l p = ((List.range l.length).filter fun i => isMk (mrun s (l.take i)) (at_ l i)).map fun i => (p + i, at_ l i)
  | [], s, p => rfl
  | c :: l, s, p => by
    have ih := mkGo_range l (mstep s c) (p + 1)
    show (if isMk s c then [(p, c)] else []) ++ mkGo (mstep s c) l (p + 1) = _
    rw [ih, List.length_cons, List.range_succ_eq_map, List.filter_cons]
    have e0 : isMk (mrun s ((c :: l).take 0)) (at_ (c :: l) 0) = isMk s c := rfl
    rw [e0, List.filter_map, show ((fun i => isMk (mrun s ((c :: l).take i)) (at_ (c :: l) i)) ∘ Nat.succ) = (fun i => isMk (mrun (mstep s c) (l.take i)) (at_ l i)) from rfl]
    have em : ∀ L : List Nat, (L.map Nat.succ).map (fun i => (p + i, at_ (c :: l) i)) = L.map (fun i => (p + 1 + i, at_ l i)) := fun L => by
      rw [List.map_map]
      refine List.map_congr_left (fun i _ => ?_)
      show (p + (i + 1), at_ (c :: l) (i + 1)) = (p + 1 + i, at_ l i)
      rw [show p + (i + 1) = p + 1 + i from by omega]; rfl
    cases isMk s c with
    | true => rw [if_pos rfl, if_pos rfl, List.map_cons, em]; rfl
    | false => simp only [Bool.false_eq_true, if_false, List.nil_append]; rw [em]
theorem places_filter (l : List Nat) : places l = (List.range l.length).filter fun i => !insB l i && isM (at_ l i) := by
  unfold places mks
  rw [mkGo_range, List.map_map]
  have e : (Prod.fst ∘ fun i => (0 + i, at_ l i)) = id := by funext i; simp
  rw [e, List.map_id]
  refine List.filter_congr (fun i _ => ?_)
  exact mark_at
theorem parens_places (l : List Nat) : parens l = (places l).flatMap fun p => bits2 (at_ l p) := by
  unfold parens places mks
  rw [mkGo_range, List.map_map, List.flatMap_map]
  have e : (Prod.fst ∘ fun i => (0 + i, at_ l i)) = id := by funext i; simp
  rw [e, List.map_id]
/-- The places among the first bytes. -/
def plcTo (l : List Nat) (k : Nat) : List Nat := (List.range k).filter fun i => !insB l i && isM (at_ l i)
theorem plcTo_succ (l : List Nat) (k : Nat) : plcTo l (k + 1) = plcTo l k ++ (if (!insB l k && isM (at_ l k)) then [k] else []) := by
  unfold plcTo
  rw [List.range_succ, List.filter_append]
  congr 1
  cases h : (!insB l k && isM (at_ l k)) <;> simp [h]
theorem plcTo_all (l : List Nat) : plcTo l l.length = places l := (places_filter l).symm
theorem plcTo_length (l : List Nat) (k : Nat) : (plcTo l k).length ≤ k := by
  have := List.length_filter_le (fun i => !insB l i && isM (at_ l i)) (List.range k)
  rwa [List.length_range] at this
/-- How many marks stand ahead of a mark. -/
theorem places_ahead (l : List Nat) (i : Nat) (h : i < (places l).length) : (places l).countP (fun y => decide (y < (places l)[i])) = i := by
  have hr := places_rise l
  have hsplit : places l = (places l).take i ++ (places l)[i] :: (places l).drop (i + 1) := by
    rw [← List.drop_eq_getElem_cons h, List.take_append_drop]
  have hr2 := hr
  rw [hsplit] at hr2
  rw [List.pairwise_append, List.pairwise_cons] at hr2
  obtain ⟨_, ⟨h2, _⟩, h3⟩ := hr2
  generalize (places l)[i] = v at *
  conv => lhs; rw [hsplit]
  rw [List.countP_append, List.countP_cons, List.countP_eq_length.2 (fun y hy => decide_eq_true (h3 y hy v List.mem_cons_self)), List.countP_eq_zero.2 (fun y hy => by have := h2 y hy; simp; omega), List.length_take]
  simp; omega
end Go.Proofs.YtacllonekidocaaGreatDoor.L
