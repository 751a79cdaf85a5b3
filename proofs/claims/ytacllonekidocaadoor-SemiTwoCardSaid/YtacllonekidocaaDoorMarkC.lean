/- Plain laws: a JSON text's marks; two of them in an array. No program in sight. -/
import Derived.Test.YtacllonekidocaaDoorMarkA
set_option linter.unusedVariables false
set_option linter.unusedSimpArgs false
namespace Go.Proofs.YtacllonekidocaaDoor.L

/-- A JSON text that is no deeper than so. -/
def Text (l : List Nat) (deep : Nat) : Prop := (goA start l 0).2 = l.length ∧ fin (goA start l 0).1 = true ∧ (goA start l 0).1.most ≤ deep
theorem text_run {l : List Nat} {deep : Nat} (h : Text l deep) : mrun 0 l = 0 := by
  have hd := goA_to_drive l start 0 (by rw [h.1, Nat.zero_add])
  obtain ⟨g1, g2, g3⟩ := drive_NN l start _ 0 [] ⟨fun h => by
    have e : start.m = 0 := rfl
    omega, fun x hx => by cases hx⟩ (by simpa [start] using NN.nil) hd
  have hm := ((fin_iff _).1 h.2.1).2
  have hc : cls (goA start l 0).1 = 0 := cls_0 (by omega)
  have hs : cls start = 0 := rfl
  rw [hc, hs] at g2
  exact g2.symm
theorem text_most {l : List Nat} : (goA start l 0).1.most ≤ l.length := by
  have h1 := (small_go l start 0 small_start).2.1
  have h2 := (goA_ge l start 0).2
  omega
theorem mkGo_one {c p : Nat} (h : isM c = true) : mkGo 0 [c] p = [(p, c)] := by
  have h2 : isMk 0 c = true := by unfold isMk; simp [h]
  simp [mkGo, h2]
theorem mrun_one {c : Nat} (h : c ≠ 34) : mrun 0 [c] = 0 := by show mstep 0 c = 0; exact mstep_0 h
theorem mrun_append (s : Nat) (l m : List Nat) : mrun s (l ++ m) = mrun (mrun s l) m := by unfold mrun; rw [List.foldl_append]
/-- The array of two texts. -/
def arr2 (l r : List Nat) : List Nat := [91] ++ l ++ [44] ++ r ++ [93]
theorem arr2_length (l r : List Nat) : (arr2 l r).length = l.length + r.length + 3 := by unfold arr2; simp; omega
theorem arr2_mks {l r : List Nat} (hl : mrun 0 l = 0) (hr : mrun 0 r = 0) : mks (arr2 l r) = [(0, 91)] ++ (mks l).map (fun x => (x.1 + 1, x.2)) ++ [(l.length + 1, 44)] ++ (mks r).map (fun x => (x.1 + (l.length + 2), x.2)) ++ [(l.length + r.length + 2, 93)] := by
  have e1 : mrun 0 [91] = 0 := rfl
  have e2 : mrun 0 ([91] ++ l) = 0 := by rw [mrun_append, e1, hl]
  have e3 : mrun 0 ([91] ++ l ++ [44]) = 0 := by rw [mrun_append, e2]; rfl
  have e4 : mrun 0 ([91] ++ l ++ [44] ++ r) = 0 := by rw [mrun_append, e3, hr]
  unfold arr2 mks
  rw [mkGo_append, mkGo_append, mkGo_append, mkGo_append, e1, e2, e3, e4]
  have s1 := mkGo_shift l 0 0 1
  have s2 := mkGo_shift r 0 0 (l.length + 2)
  simp only [List.length_append, List.length_cons, List.length_nil, Nat.zero_add] at *
  rw [show 1 + l.length + 1 = l.length + 2 from by omega, s1, s2, mkGo_one rfl, mkGo_one rfl, mkGo_one rfl]
  rw [show 1 + l.length = l.length + 1 from by omega, show l.length + 1 + 1 + r.length = l.length + r.length + 2 from by omega]
theorem arr2_places {l r : List Nat} (hl : mrun 0 l = 0) (hr : mrun 0 r = 0) : places (arr2 l r) = [0] ++ (places l).map (· + 1) ++ [l.length + 1] ++ (places r).map (· + (l.length + 2)) ++ [l.length + r.length + 2] := by
  unfold places
  rw [arr2_mks hl hr]
  simp [List.map_append, Function.comp_def]
theorem arr2_text {l r : List Nat} {deep : Nat} (hl : Text l deep) (hr : Text r deep) : Text (arr2 l r) (deep + 1) := by
  have h := drive_to_goA (nest_arr hl.1 hl.2.1 hr.1 hr.2.1) 0
  have e : goA start (arr2 l r) 0 = (Q 5 [] (max (goA start l 0).1.most (goA start r 0).1.most + 1), 0 + (arr2 l r).length) := h
  unfold Text
  rw [e]
  refine ⟨by rw [Nat.zero_add], rfl, ?_⟩
  show max (goA start l 0).1.most (goA start r 0).1.most + 1 ≤ deep + 1
  have := hl.2.2
  have := hr.2.2
  omega
theorem Text.deep {l : List Nat} {a b : Nat} (h : Text l a) (hb : l.length ≤ b) : Text l b := ⟨h.1, h.2.1, by have := text_most (l := l); omega⟩
theorem arr2_len {l r : List Nat} (hl : mrun 0 l = 0) (hr : mrun 0 r = 0) : (places (arr2 l r)).length = (places l).length + (places r).length + 3 := by
  rw [arr2_places hl hr]; simp; omega
theorem arr2_left {l r : List Nat} (hl : mrun 0 l = 0) (hr : mrun 0 r = 0) {i : Nat} (h : i < (places l).length) : (places (arr2 l r))[i + 1]? = some ((places l)[i] + 1) := by
  rw [arr2_places hl hr]
  simp only [List.append_assoc]
  rw [List.getElem?_append_right (by simp), List.getElem?_append_left (by simpa using h)]
  simp [List.getElem?_eq_getElem h]
theorem arr2_right {l r : List Nat} (hl : mrun 0 l = 0) (hr : mrun 0 r = 0) {i : Nat} (h : i < (places r).length) : (places (arr2 l r))[i + (places l).length + 2]? = some ((places r)[i] + l.length + 2) := by
  rw [arr2_places hl hr]
  simp only [List.append_assoc]
  rw [List.getElem?_append_right (by simp), List.getElem?_append_right (by simp; omega), List.getElem?_append_right (by simp; omega), List.getElem?_append_left (by simp; omega)]
  simp only [List.length_map, List.length_cons, List.length_nil]
  rw [show i + (places l).length + 2 - 1 - (places l).length - 1 = i from by omega, List.getElem?_map, List.getElem?_eq_getElem h]
  first | (simp; done) | (simp; omega)
end Go.Proofs.YtacllonekidocaaDoor.L
