/- Walks: what a file's set tells: its records, its indexes, its bytes. -/
import Derived.Test.YtgpbpgpolpakjaaGreatDoorLoadA
import Derived.Test.YtgpbpgpolpakjaaGreatDoorTabG
import Derived.Test.YtgpbpgpolpakjaaGreatDoorTabH
set_option linter.unusedVariables false
set_option linter.unusedSimpArgs false
set_option maxRecDepth 100000
namespace Go.Proofs.YtgpbpgpolpakjaaGreatDoor
open Go.RowKit Go.Shelf L

theorem setFile_any (g : Nat) (s : ByteArray) (deep : Nat) (w : World) (h : SetAt w g s deep) :
    Calls Tryz.prog 63 #[.pointer (some ⟨g, 0, none⟩)] w fun e w' => e = .returned (.string s) ∧ w = w' := by
  obtain ⟨Al, cl, Ai, ci, ps, h1, _⟩ := h
  have k0 := h1.cell 0
  clear h1
  go_enter Tryz.func63, Tryz.ntmps63
  go_wp2_with fail
  go_ret
  exact ⟨rfl, rfl⟩
theorem setDeep_any (g : Nat) (s : ByteArray) (deep : Nat) (w : World) (h : SetAt w g s deep) :
    Calls Tryz.prog 22 #[.pointer (some ⟨g, 0, none⟩)] w fun e w' => e = .returned (.int .i64 (deep : Nat)) ∧ w = w' := by
  obtain ⟨Al, cl, Ai, ci, ps, h1, _⟩ := h
  have k0 := h1.cell 1
  clear h1
  go_enter Tryz.func22, Tryz.ntmps22
  go_wp2_with fail
  go_ret
  exact ⟨rfl, rfl⟩
theorem setLen_any (g : Nat) (s : ByteArray) (deep : Nat) (w : World) (h : SetAt w g s deep) :
    Calls Tryz.prog 59 #[.pointer (some ⟨g, 0, none⟩)] w fun e w' => e = .returned (.int .i64 ((recs (nb s) deep).length : Nat)) ∧ w = w' := by
  obtain ⟨Al, cl, Ai, ci, ps, h1, _⟩ := h
  have k0 := h1.cell 2
  clear h1
  generalize recs (nb s) deep = X at *
  go_enter Tryz.func59, Tryz.ntmps59
  go_wp2_with fail
  go_ret
  exact ⟨rfl, rfl⟩
set_option maxHeartbeats 1000000 in
theorem loadEntry_any (a b v p : Int) (w : World) :
    Calls Tryz.prog 70 #[.agg #[.int .i64 a, .int .i64 b, .int .i64 v, .int .i64 p]] w fun e w' => e = .returned (.agg #[.int .i64 a, .int .i64 b, .int .i64 v, .int .i64 p, .string ⟨#[]⟩]) ∧ Below w.heap.size w w' := by
  have hB0 : Below w.heap.size w (w.alloc (.cells #[.int .i64 a, .int .i64 b, .int .i64 v, .int .i64 p] 96)) := (Below.refl _ _).alloc (Nat.le_refl _) _
  have hs0 : (w.alloc (.cells #[.int .i64 a, .int .i64 b, .int .i64 v, .int .i64 p] 96)).heap.size = w.heap.size + 1 := by simp
  have hE := BlkIs.new (w.alloc (.cells #[.int .i64 a, .int .i64 b, .int .i64 v, .int .i64 p] 96)) 113 #[.int .i64 a, .int .i64 b, .int .i64 v, .int .i64 p, .string ⟨#[]⟩]
  rw [hs0] at hE
  have hB1 := hB0.alloc (by rw [hs0]; omega) (.cells #[.int .i64 a, .int .i64 b, .int .i64 v, .int .i64 p, .string ⟨#[]⟩] 113)
  clear hs0
  go_enter Tryz.func70, Tryz.ntmps70
  go_wp2_with fail
  (try simp only [Exit.inBlock, Exit.then])
  refine bodyPost_ret (results_cell_row rfl _ _ (w.heap.size + 1) 113 _ (0, 0) _ rfl hE ent_under rfl (by kernel_rfl)) rfl ?_
  exact ⟨rfl, hB1⟩

theorem results_row2 {P : Program} {fn : Func} {p u : Tmp} {ty : TypeId} (h : fn.results = #[.cell p ty, .tmp u]) (tmps : Array Value) (w : World) (g : Nat) (t : TypeId) (cs : Array Value)
    (hp : tmps.getD p undef = .pointer (some ⟨g, 0, none⟩)) (hg : BlkIs w g t cs)
    (hu : ∃ fs, P.underlying ty = some (.struct fs)) (hi : (P.info? ty).map (·.size) = some cs.size) :
    (results fn tmps).run P w = .ok (.tuple #[.agg cs, tmps.getD u undef]) w := results_shape h tmps w g t cs hp hg hu hi
theorem rec_under : ∃ fs, Tryz.prog.underlying 96 = some (.struct fs) := ⟨_, by rfl⟩
theorem rec_size : (Tryz.prog.info? 96).map (·.size) = some 4 := by rfl
/-- A record as a value. -/
def recVal (r : RecN) : Value := .agg #[.int .i64 (r.a : Nat), .int .i64 (r.b : Nat), .int .i64 (r.v : Nat), .int .i64 (r.p : Nat)]
set_option maxHeartbeats 1000000 in
theorem setRecord_in (g : Nat) (s : ByteArray) (deep : Nat) (i : Nat) (w : World) (h : SetAt w g s deep) (hi : i < (recs (nb s) deep).length) (hl : (recs (nb s) deep).length ≤ 100000) :
    Calls Tryz.prog 65 #[.pointer (some ⟨g, 0, none⟩), .int .i64 (i : Nat)] w fun e w' => e = .returned (.tuple #[recVal (recs (nb s) deep)[i], .int .i64 0]) ∧ Below w.heap.size w w' := by
  obtain ⟨Al, cl, Ai, ci, ps, h1, h2, _⟩ := h
  generalize recs (nb s) deep = X at *
  have hli : (i : Int) < (X.length : Int) := by omega
  have h0i : (0 : Int) ≤ (i : Int) := by omega
  have hR0 := BlkIs.new w 96 #[.int .i64 0, .int .i64 0, .int .i64 0, .int .i64 0]
  have hB0 : Below w.heap.size w (w.alloc (.cells #[.int .i64 0, .int .i64 0, .int .i64 0, .int .i64 0] 96)) := (Below.refl _ _).alloc (Nat.le_refl _) _
  have k2 := (h1.below hB0).cell 2
  have d1 : decide ((i : Int) < 0) = false := decide_eq_false (by omega)
  have d2 : decide ((X.length : Int) ≤ (i : Int)) = false := decide_eq_false (by omega)
  have d3 : decide (X.length ≤ i) = false := decide_eq_false (by omega)
  obtain ⟨gl, ol, rfl, q0, q1, q2, q3⟩ := rec_cells (h2.below hB0) hi
  have hR1 := BlkIs.new w 96 #[.int .i64 (X[i].a : Nat), .int .i64 (X[i].b : Nat), .int .i64 (X[i].v : Nat), .int .i64 (X[i].p : Nat)]
  have hgl := h1.lt
  have f0 := hR0.frozen 0
  have f1 := hR0.frozen 1
  have f2 := hR0.frozen 2
  have f3 := hR0.frozen 3
  have r0 := hR0.cell 0
  have r1 := hR0.cell 1
  have r2 := hR0.cell 2
  have r3 := hR0.cell 3
  clear h1 h2
  show Calls _ _ _ _ fun e w' => e = .returned (.tuple #[.agg #[.int .i64 (X[i].a : Nat), .int .i64 (X[i].b : Nat), .int .i64 (X[i].v : Nat), .int .i64 (X[i].p : Nat)], .int .i64 0]) ∧ Below w.heap.size w w'
  generalize X[i] = r at *
  go_enter Tryz.func65, Tryz.ntmps65
  go_wp2_with fail
  (try simp only [Exit.inBlock, Exit.then])
  refine bodyPost_ret (results_row2 rfl _ _ w.heap.size _ _ rfl hR1 rec_under rec_size) rfl ?_
  exact ⟨rfl, (Below.refl _ _).alloc (Nat.le_refl _) _⟩
set_option maxHeartbeats 1000000 in
theorem setRecord_out (g : Nat) (s : ByteArray) (deep : Nat) (i : Int) (w : World) (h : SetAt w g s deep) (hi : i < 0 ∨ ((recs (nb s) deep).length : Int) ≤ i) :
    Calls Tryz.prog 65 #[.pointer (some ⟨g, 0, none⟩), .int .i64 i] w fun e w' => (∃ v, e = .returned (.tuple #[v, .int .i64 2])) ∧ Below w.heap.size w w' := by
  have HP := hid (show ∀ v w', Below w.heap.size w w' → (∃ v', Ending.returned (.tuple #[v, .int .i64 2]) = .returned (.tuple #[v', .int .i64 2])) ∧ Below w.heap.size w w' from fun v w' hb => ⟨⟨v, rfl⟩, hb⟩)
  obtain ⟨Al, cl, Ai, ci, ps, h1, h2, _⟩ := h
  generalize recs (nb s) deep = X at *
  have hR0 := BlkIs.new w 96 #[.int .i64 0, .int .i64 0, .int .i64 0, .int .i64 0]
  have hB0 : Below w.heap.size w (w.alloc (.cells #[.int .i64 0, .int .i64 0, .int .i64 0, .int .i64 0] 96)) := (Below.refl _ _).alloc (Nat.le_refl _) _
  have k2 := (h1.below hB0).cell 2
  have hgl := h1.lt
  have f0 := hR0.frozen 0
  have f1 := hR0.frozen 1
  have f2 := hR0.frozen 2
  have f3 := hR0.frozen 3
  have r0 := hR0.cell 0
  have r1 := hR0.cell 1
  have r2 := hR0.cell 2
  have r3 := hR0.cell 3
  clear h1 h2
  by_cases h0 : i < 0
  · have d1 : decide (i < 0) = true := decide_eq_true h0
    go_enter Tryz.func65, Tryz.ntmps65
    go_wp2_with fail
    (try simp only [Exit.inBlock, Exit.then])
    refine bodyPost_ret (results_row2 rfl _ _ w.heap.size _ _ rfl hR0 rec_under rec_size) rfl ?_
    exact HP.out _ _ hB0
  · have d1 : decide (i < 0) = false := decide_eq_false h0
    have hg : (X.length : Int) ≤ i := by omega
    have d2 : decide ((X.length : Int) ≤ i) = true := decide_eq_true hg
    go_enter Tryz.func65, Tryz.ntmps65
    go_wp2_with fail
    (try simp only [Exit.inBlock, Exit.then])
    refine bodyPost_ret (results_row2 rfl _ _ w.heap.size _ _ rfl hR0 rec_under rec_size) rfl ?_
    exact HP.out _ _ hB0

theorem setIndex_out (g : Nat) (s : ByteArray) (deep : Nat) (i : Int) (w : World) (h : SetAt w g s deep) (hi : i < 0 ∨ ((recs (nb s) deep).length : Int) ≤ i) :
    Calls Tryz.prog 66 #[.pointer (some ⟨g, 0, none⟩), .int .i64 i] w fun e w' => e = .returned (.tuple #[.pointer none, .int .i64 2]) ∧ w = w' := by
  obtain ⟨Al, cl, Ai, ci, ps, h1, h2, _⟩ := h
  generalize recs (nb s) deep = X at *
  have k2 := h1.cell 2
  clear h1 h2
  by_cases h0 : i < 0
  · have d1 : decide (i < 0) = true := decide_eq_true h0
    go_enter Tryz.func66, Tryz.ntmps66
    go_wp2_with fail
    go_ret2
    exact ⟨rfl, rfl⟩
  · have d1 : decide (i < 0) = false := decide_eq_false h0
    have hg : (X.length : Int) ≤ i := by omega
    have d2 : decide ((X.length : Int) ≤ i) = true := decide_eq_true hg
    go_enter Tryz.func66, Tryz.ntmps66
    go_wp2_with fail
    go_ret2
    exact ⟨rfl, rfl⟩
theorem ptr_cell {w : World} {A : Option Addr} {ps : List (Option Addr)} (h : Lst w A (ps.map Value.pointer)) {i : Nat} {q : Option Addr} (hq : ps[i]? = some q) : ∃ g o, A = some ⟨g, o, none⟩ ∧ g < w.heap.size ∧ w.cell? ⟨g, o + i, none⟩ = some (.pointer q) := by
  have hi := (List.getElem?_eq_some_iff.1 hq).1
  obtain ⟨g, o, rfl, hg, hc⟩ := h.litS (by rw [List.length_map]; omega)
  exact ⟨g, o, rfl, hg, hc i _ (by rw [List.getElem?_map, hq]; rfl)⟩
/-- What Index tells of a record. -/
theorem setIndex_in (g : Nat) (s : ByteArray) (deep : Nat) (i : Nat) (w : World) (h : SetAt w g s deep) (hi : i < (recs (nb s) deep).length) :
    Calls Tryz.prog 66 #[.pointer (some ⟨g, 0, none⟩), .int .i64 (i : Nat)] w fun e w' => ((∃ gi, (recs (nb s) deep)[i].v = 1 ∧ e = .returned (.tuple #[.pointer (some ⟨gi, 0, none⟩), .int .i64 0]) ∧ IdxAt w gi (s.extract (recs (nb s) deep)[i].a (recs (nb s) deep)[i].b)) ∨ ((recs (nb s) deep)[i].v ≠ 1 ∧ e = .returned (.tuple #[.pointer none, .int .i64 8]))) ∧ w = w' := by
  obtain ⟨Al, cl, Ai, ci, ps, h1, h2, h3, h4, h5⟩ := h
  have hok := h5 i (recs (nb s) deep)[i] (by omega) (List.getElem?_eq_getElem hi)
  generalize (recs (nb s) deep)[i] = r at *
  generalize recs (nb s) deep = X at *
  have k2 := h1.cell 2
  have k3 := h1.cell 3
  have d1 : decide ((i : Int) < 0) = false := decide_eq_false (by omega)
  have d2 : decide ((X.length : Int) ≤ (i : Int)) = false := decide_eq_false (by omega)
  have d3 : decide (X.length ≤ i) = false := decide_eq_false (by omega)
  have hli : (i : Int) < (X.length : Int) := by omega
  have h0i : (0 : Int) ≤ (i : Int) := by omega
  by_cases hv : r.v = 1
  · obtain ⟨gi, hq, hx⟩ := hok.1 hv
    obtain ⟨gp, op, rfl, hgp, kp⟩ := ptr_cell h3 hq
    have HX := hid hx
    have HV := hid hv
    clear h1 h2 h5 hok hv hx
    go_enter Tryz.func66, Tryz.ntmps66
    go_wp2_with fail
    go_ret2
    exact ⟨.inl ⟨gi, HV.out, rfl, HX.out⟩, rfl⟩
  · have hq := hok.2 hv
    obtain ⟨gp, op, rfl, hgp, kp⟩ := ptr_cell h3 hq
    have HV := hid hv
    clear h1 h2 h5 hok hv
    go_enter Tryz.func66, Tryz.ntmps66
    go_wp2_with fail
    go_ret2
    exact ⟨.inr ⟨HV.out, rfl⟩, rfl⟩
end Go.Proofs.YtgpbpgpolpakjaaGreatDoor
