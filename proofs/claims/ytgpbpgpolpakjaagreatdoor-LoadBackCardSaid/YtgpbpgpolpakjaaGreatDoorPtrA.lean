/- A list of pointers that grows; what an index is made of stays meanwhile. -/
import Derived.Test.YtgpbpgpolpakjaaGreatDoorSemiX
set_option linter.unusedVariables false
set_option linter.unusedSimpArgs false
set_option maxRecDepth 100000
namespace Go.Proofs.YtgpbpgpolpakjaaGreatDoor
open Go.RowKit Go.Shelf L

/-- Blocks of other types, and all numbers, stand as they stood. -/
def KeepI (w w' : World) : Prop :=
  w.heap.size ≤ w'.heap.size ∧ (∀ k t cs, BlkIs w k t cs → t ≠ 92 → t ≠ 23 → BlkIs w' k t cs) ∧ ∀ p k i, w.cell? p = some (.int k i) → w'.cell? p = some (.int k i)
theorem KeepI.refl (w : World) : KeepI w w := ⟨Nat.le_refl _, fun _ _ _ h _ _ => h, fun _ _ _ h => h⟩
theorem KeepI.trans {a b c : World} (h : KeepI a b) (k : KeepI b c) : KeepI a c := ⟨Nat.le_trans h.1 k.1, fun i t cs hi h1 h2 => k.2.1 i t cs (h.2.1 i t cs hi h1 h2) h1 h2, fun p i j hp => k.2.2 p i j (h.2.2 p i j hp)⟩
theorem KeepI.below {w w' : World} (h : Below w.heap.size w w') : KeepI w w' :=
  ⟨h.size, fun k t cs hk _ _ => hk.below h, fun p k i hp => (h.cell (World.block_lt_of_cell? w _ hp)).trans hp⟩
theorem KeepI.set {w : World} {g i : Nat} {t : TypeId} {cs : Array Value} (hg : BlkIs w g t cs) (ht : t = 92 ∨ t = 23) {u : Value} (hu : w.cell? ⟨g, i, none⟩ = some u) (hn : ∀ k n, u ≠ .int k n) (x : Value) : KeepI w (w.setCell ⟨g, i, none⟩ x) := by
  refine ⟨by simp, fun k t' cs' hk h1 h2 => hk.far (p := ⟨g, i, none⟩) (hk.ne_ hg (fun e => ?_)) _, fun p k n hp => ?_⟩
  · rcases ht with rfl | rfl
    · exact h1 e
    · exact h2 e
  · rw [World.cell?_setCell_other w _ _ _ (fun e => ?_)]
    · exact hp
    · rw [← e, hu] at hp
      exact hn k n (Option.some.inj hp)
theorem Lst.keepI {w w' : World} {A : Option Addr} {xs : List Value} (h : Lst w A xs) (hx : intish xs) (hk : KeepI w w') : Lst w' A xs := fun i u hu => by
  obtain ⟨ad, e, hc⟩ := h i u hu
  obtain ⟨k, n, rfl⟩ := hx u (List.mem_of_getElem? hu)
  exact ⟨ad, e, hk.2.2 _ _ _ hc⟩
theorem RowAt.keepI {w w' : World} {r : Nat} {A : Option Addr} {c : Nat} {bs : List Bool} (h : RowAt w r A c bs) (hk : KeepI w w') : RowAt w' r A c bs :=
  RowAt.mk (hk.2.1 _ _ _ h.blk (by decide) (by decide)) (h.lst.keepI (intish_u64s _) hk) h.small
theorem ChooserAt.keepI {w w' : World} {r gd gx : Nat} {A : Option Addr} {c : Nat} {bs : List Bool} {Ad : Option Addr} {cd : Nat} {A1 : Option Addr} {c1 : Nat} {l1 : List Nat} {A0 : Option Addr} {c0 : Nat} {l0 : List Nat} (h : ChooserAt w r gd gx A c bs Ad cd A1 c1 l1 A0 c0 l0) (hk : KeepI w w') : ChooserAt w' r gd gx A c bs Ad cd A1 c1 l1 A0 c0 l0 := by
  obtain ⟨h1, h2, h3, ⟨h4, h5, h6⟩, h7⟩ := h
  exact ⟨hk.2.1 _ _ _ h1 (by decide) (by decide), h2.keepI (intish_natCells _) hk, h3.keepI (intish_natCells _) hk, ⟨hk.2.1 _ _ _ h4 (by decide) (by decide), h5.keepI (intish_u64s _) hk, h6.keepI hk⟩, h7⟩
theorem SeqAt.keepI {w w' : World} {s : Nat} {l : List Nat} {B : Nat} (h : SeqAt w s l B) (hk : KeepI w w') : SeqAt w' s l B := by
  obtain ⟨gl, Al, cl, gc, gd, gx, A, c, Ad, cd, A1, c1, l1, A0, c0, l0, h1, h2, h3⟩ := h
  exact ⟨gl, Al, cl, gc, gd, gx, A, c, Ad, cd, A1, c1, l1, A0, c0, l0, hk.2.1 _ _ _ h1 (by decide) (by decide), h2.keepI hk, h3.keepI hk⟩
theorem NestAt.keepI {w w' : World} {s : Nat} {bs : List Bool} (h : NestAt w s bs) (hk : KeepI w w') : NestAt w' s bs := by
  obtain ⟨gx, gt, gl, gc, gd, A, c, hh, Ad, cd, A1, c1, l1, A0, c0, l0, h1, ⟨t1, t2, t3, t4⟩, h3⟩ := h
  exact ⟨gx, gt, gl, gc, gd, A, c, hh, Ad, cd, A1, c1, l1, A0, c0, l0, hk.2.1 _ _ _ h1 (by decide) (by decide), ⟨hk.2.1 _ _ _ t1 (by decide) (by decide), hk.2.1 _ _ _ t2 (by decide) (by decide), t3.keepI hk, t4⟩, h3.keepI hk⟩
theorem IdxAt.keepI {w w' : World} {g : Nat} {s : ByteArray} (h : IdxAt w g s) (hk : KeepI w w') : IdxAt w' g s := by
  obtain ⟨q, x, t, Ax, cx, h1, h2, h3, h4⟩ := h
  exact ⟨q, x, t, Ax, cx, hk.2.1 _ _ _ h1 (by decide) (by decide), h2.keepI hk, h3.keepI hk, h4.keepI hk⟩

/-- A list of pointers in a row of its own, which holds pointers only. -/
def PRow (w : World) (base : Nat) (v : Value) (ps : List (Option Addr)) : Prop :=
  (v = .slice none 0 0 ∧ ps = []) ∨ ∃ g cap cur, v = .slice (some ⟨g, 0, none⟩) ps.length cap ∧ base ≤ g ∧ ps.length ≤ cap ∧ cap ≤ maxLen ∧ BlkIs w g 23 cur ∧ cur.size = cap ∧ (∀ j, j < cap → ∃ p, cur[j]? = some (Value.pointer p)) ∧ ∀ (j : Nat) (p : Option Addr), ps[j]? = some p → cur[j]? = some (Value.pointer p)
theorem PRow.lst {w : World} {base : Nat} {A : Option Addr} {n c : Nat} {ps : List (Option Addr)} (h : PRow w base (.slice A n c) ps) : Lst w A (ps.map Value.pointer) ∧ n = ps.length := by
  rcases h with ⟨h1, rfl⟩ | ⟨g, cap, cur, h1, _, _, _, hb, _, _, h5⟩
  · cases h1
    exact ⟨Lst.nil_ _ _, rfl⟩
  · cases h1
    refine ⟨fun i u hu => ⟨_, rfl, ?_⟩, rfl⟩
    rw [List.getElem?_map] at hu
    obtain ⟨p, hp, rfl⟩ := Option.map_eq_some_iff.1 hu
    rw [add_zero_, hb.cell]
    exact h5 i p hp
theorem PRow.kept {w w' : World} {base : Nat} {v : Value} {ps : List (Option Addr)} (h : PRow w base v ps) (hk : ∀ g, base ≤ g → g < w.heap.size → (∃ cur, BlkIs w g 23 cur) → w'.heap[g]? = w.heap[g]?) : PRow w' base v ps := by
  rcases h with h | ⟨g, cap, cur, h1, h2, h3, h4, h5, h6⟩
  · exact .inl h
  · exact .inr ⟨g, cap, cur, h1, h2, h3, h4, h5.kept (hk g h2 h5.lt ⟨cur, h5⟩), h6⟩
theorem PRow.below {w w' : World} {base : Nat} {v : Value} {ps : List (Option Addr)} (h : PRow w base v ps) (hb : Below w.heap.size w w') : PRow w' base v ps := h.kept fun g _ hg _ => hb.block g hg
theorem PRow.far {w : World} {base : Nat} {v : Value} {ps : List (Option Addr)} (h : PRow w base v ps) {p : Addr} (hp : p.block < base) (u : Value) : PRow (w.setCell p u) base v ps := h.kept fun g hg _ _ => Below.heap_setCell w p u g (by omega)

theorem PRow.slice {w : World} {base : Nat} {v : Value} {ps : List (Option Addr)} (h : PRow w base v ps) : ∃ A c, v = .slice A ps.length c := by
  rcases h with ⟨rfl, rfl⟩ | ⟨g, cap, cur, rfl, _⟩
  · exact ⟨_, _, rfl⟩
  · exact ⟨_, _, rfl⟩
theorem PRow.lt {w : World} {base : Nat} {v : Value} {ps : List (Option Addr)} (h : PRow w base v ps) : ∀ k, v.ownBlock = some k → base ≤ k ∧ k < w.heap.size := fun k hk => by
  rcases h with ⟨rfl, rfl⟩ | ⟨g, cap, cur, rfl, h2, _, _, h5, _⟩
  · cases hk
  · cases hk; exact ⟨h2, h5.lt⟩
section
variable {P : Program}
theorem run_append_ptr {w : World} {base : Nat} {v : Value} {ps : List (Option Addr)} (h : PRow w base v ps) (t ty : TypeId) (i : TypeInfo) (ht : P.underlying t = some (.slice 23)) (hi : P.info? 23 = some i) (hz : i.zero = some (.pointer none)) (hsize : i.size = 1) (hby : i.bytes = 8)
    (a : Addr) (q : Option Addr) (hc : w.cell? a = some (.pointer q)) (hl : ps.length < 1000000) (hb : base ≤ w.heap.size) :
    ∃ v' w', (Builtin.append_ #[t, t] ty #[v, .slice (some a) 1 1]).run P w = .ok v' w' ∧ PRow w' base v' (ps ++ [q]) ∧ KeepI w w' ∧ Below base w w' ∧ ∀ k, k < w.heap.size → v.ownBlock ≠ some k → w'.heap[k]? = w.heap[k]? := by
  have hnews : ∀ j u, [Value.pointer q][j]? = some u → w.cell? (a.add j) = some u := fun j u hj => by
    rcases j with _ | j
    · simp only [List.getElem?_cons_zero, Option.some.injEq] at hj
      have e : a.add 0 = a := by unfold Addr.add; rfl
      rw [e, hc, hj]
    · simp at hj
  -- a new row
  have fresh : ∀ (cap : Nat), ps.length + 1 ≤ cap → cap ≤ maxLen → PRow (w.drew.alloc (.cells ((ps.map Value.pointer).toArray ++ [Value.pointer q].toArray ++ Builtin.zeroCells (Value.pointer none).cells (cap - (ps.length + 1))) 23)) base (.slice (some ⟨w.heap.size, 0, none⟩) (ps ++ [q]).length cap) (ps ++ [q]) ∧ KeepI w (w.drew.alloc (.cells ((ps.map Value.pointer).toArray ++ [Value.pointer q].toArray ++ Builtin.zeroCells (Value.pointer none).cells (cap - (ps.length + 1))) 23)) ∧ Below base w (w.drew.alloc (.cells ((ps.map Value.pointer).toArray ++ [Value.pointer q].toArray ++ Builtin.zeroCells (Value.pointer none).cells (cap - (ps.length + 1))) 23)) := by
    intro cap h1 h2
    have hB : Below w.heap.size w (w.drew.alloc (.cells ((ps.map Value.pointer).toArray ++ [Value.pointer q].toArray ++ Builtin.zeroCells (Value.pointer none).cells (cap - (ps.length + 1))) 23)) := (Below.refl _ _).drew.alloc (Nat.le_refl _) _
    have hz : ∀ m j, j < m → (Builtin.zeroCells (Value.pointer none).cells m)[j]? = some (Value.pointer none) := fun m j hj => by
      have e : (Value.pointer none).cells = #[Value.pointer none] := rfl
      rw [e]
      unfold Builtin.zeroCells
      simp [hj, Nat.mod_one]
    have hzs : ∀ m, (Builtin.zeroCells (Value.pointer none).cells m).size = m := fun m => by rw [size_zeroCells]; show m * 1 = m; omega
    have hsz : ((ps.map Value.pointer).toArray ++ [Value.pointer q].toArray ++ Builtin.zeroCells (Value.pointer none).cells (cap - (ps.length + 1))).size = cap := by
      rw [Array.size_append, Array.size_append, hzs]; simp; omega
    have hget : ∀ j, j < cap → ((ps.map Value.pointer).toArray ++ [Value.pointer q].toArray ++ Builtin.zeroCells (Value.pointer none).cells (cap - (ps.length + 1)))[j]? = some (Value.pointer (((ps ++ [q])[j]?).getD none)) := fun j hj => by
      rcases Nat.lt_or_ge j (ps.length + 1) with h3 | h3
      · rw [Array.getElem?_append_left (by simp; omega)]
        rw [show (ps.map Value.pointer).toArray ++ [Value.pointer q].toArray = ((ps ++ [q]).map Value.pointer).toArray by simp]
        rw [List.getElem?_toArray, List.getElem?_map, List.getElem?_eq_getElem (by simp; omega)]; rfl
      · rw [Array.getElem?_append_right (by simp; omega), hz _ _ (by simp; omega), List.getElem?_eq_none (by simp; omega)]; rfl
    refine ⟨.inr ⟨w.heap.size, cap, _, rfl, hb, by rw [List.length_append]; exact h1, h2, BlkIs.new w.drew _ _, hsz, fun j hj => ⟨_, hget j hj⟩, fun j p hp => ?_⟩, KeepI.below hB, hB.mono hb⟩
    have hj : j < ps.length + 1 := by
      have := (List.getElem?_eq_some_iff.1 hp).1
      rwa [List.length_append] at this
    rw [hget j (by omega), hp]; rfl
  rcases h with ⟨rfl, rfl⟩ | ⟨g, cap, cur, rfl, h2, h3, h4, h5, h6, h7, h8⟩
  · have hge := grownCap_ge w 1 0 23
    have hcm := grownCap_le_maxLen w 1 0 23 (by simp only [maxLen]; omega)
    have hr := Go.run_append_nil (P := P) w t ty 23 i _ ht hi hz a 1 1 [Value.pointer q] (by rw [hsize]; rfl) hnews (by omega) (by omega) (by rw [hby]; omega)
    obtain ⟨f1, f2, f3⟩ := fresh _ hge hcm
    exact ⟨_, _, hr, f1, f2, f3, fun k hk _ => Below.heap_alloc w.drew _ k hk⟩
  · have hcell : ∀ j, w.cell? ⟨g, j, none⟩ = cur[j]? := fun j => h5.cell j
    by_cases hr : ps.length + 1 ≤ cap
    · obtain ⟨p0, hp0⟩ := h7 ps.length (by omega)
      have hrun := run_append_room_cells (P := P) w t ty 23 i ht hi g 0 ps.length cap a 1 1 [Value.pointer q] (by rw [hsize]; rfl) hnews (by simp [Value.oneCell']) hr
        (fun j hj => by simp at hj; subst hj; rw [hsize]; simp [hcell, hp0])
        (fun j hj => h5.frozen _)
      rw [hsize, Nat.mul_one, Nat.zero_add] at hrun
      have hK : KeepI w (w.setCell ⟨g, ps.length, none⟩ (Value.pointer q)) := KeepI.set h5 (.inr rfl) ((hcell _).trans hp0) (fun k n e => by cases e) _
      have hB : Below base w (w.setCell ⟨g, ps.length, none⟩ (Value.pointer q)) := (Below.refl base w).setCell (p := ⟨g, ps.length, none⟩) h2 _
      have hP := h5.put ps.length (Value.pointer q)
      have hss : ∀ j, (cur.setIfInBounds ps.length (Value.pointer q))[j]? = if j = ps.length then some (Value.pointer q) else cur[j]? := fun j => by
        rw [Array.getElem?_setIfInBounds]
        by_cases e : j = ps.length
        · subst e; rw [if_pos rfl, if_pos rfl, if_pos (by omega)]
        · rw [if_neg (fun e2 => e e2.symm), if_neg e]
      refine ⟨_, _, hrun, .inr ⟨g, cap, _, by rw [List.length_append]; rfl, h2, by rw [List.length_append]; exact hr, h4, hP, by rw [Array.size_setIfInBounds]; exact h6, fun j hj => ?_, fun j p hp => ?_⟩, hK, hB, fun k _ hk => Below.heap_setCell w ⟨g, ps.length, none⟩ _ k (fun e => hk (by rw [e]; rfl))⟩
      · rw [hss]
        split
        · exact ⟨_, rfl⟩
        · exact h7 j hj
      · rw [hss]
        have hj : j < ps.length + 1 := by
          have := (List.getElem?_eq_some_iff.1 hp).1
          rwa [List.length_append] at this
        split
        · rename_i e
          subst e
          rw [List.getElem?_append_right (Nat.le_refl _)] at hp
          simp at hp
          rw [hp]
        · rw [List.getElem?_append_left (by omega)] at hp
          exact h8 j p hp
    · have hge := grownCap_ge w (ps.length + 1) cap 23
      have hcm := grownCap_le_maxLen w (ps.length + 1) cap 23 (by simp only [maxLen]; omega)
      have holds : ∀ j u, (ps.map Value.pointer)[j]? = some u → w.cell? ((⟨g, 0, none⟩ : Addr).add j) = some u := fun j u hj => by
        rw [List.getElem?_map] at hj
        obtain ⟨p, hp, rfl⟩ := Option.map_eq_some_iff.1 hj
        rw [add_zero_, hcell]
        exact h8 j p hp
      have hr2 := run_append_grow (P := P) w t ty 23 i _ ht hi hz ⟨g, 0, none⟩ ps.length cap (ps.map Value.pointer) (by rw [hsize]; simp) holds a 1 1 [Value.pointer q] (by rw [hsize]; rfl) hnews (by omega) (by omega) (growslice_fits (by omega) (by rw [hby]; omega))
      obtain ⟨f1, f2, f3⟩ := fresh _ hge hcm
      exact ⟨_, _, hr2, by rw [List.length_append] at f1; exact f1, f2, f3, fun k hk _ => Below.heap_alloc w.drew _ k hk⟩
theorem wp_append_ptr {w : World} {o : Oper} {a : Act} {K : Act → World → Prop} {Q : Exit → Act → World → Prop} (s x : Operand) (t : TypeId)
    (ho : o.op = .call { callee := .builtin .append, args := #[s, x], argTypes := #[t, t] }) (base : Nat) (i : TypeInfo) (ht : P.underlying t = some (.slice 23)) (hi : P.info? 23 = some i) (hz : i.zero = some (.pointer none)) (hsize : i.size = 1) (hby : i.bytes = 8)
    (v : Value) (ps : List (Option Addr)) (hs : a.eval s = v) (h : PRow w base v ps) (ad : Addr) (hx : a.eval x = .slice (some ad) 1 1) (q : Option Addr) (hc : w.cell? ad = some (.pointer q)) (hl : ps.length < 1000000) (hb : base ≤ w.heap.size)
    (hk : ∀ v' w', PRow w' base v' (ps ++ [q]) → KeepI w w' → Below base w w' → (∀ k, k < w.heap.size → v.ownBlock ≠ some k → w'.heap[k]? = w.heap[k]?) → K (a.put o.dst v') w') : o.wp P a w K Q := by
  obtain ⟨v', w', hrun, h2, h3, h4, h5⟩ := run_append_ptr (P := P) h t o.type i ht hi hz hsize hby ad q hc hl hb
  unfold Oper.wp execOp
  simp only [ho, resolve, invoke, builtin, Sem.run_bind, Sem.run_pure, Result.andThen_ok, List.map_toArray, List.map_cons, List.map_nil, hs, hx, hrun]
  exact hk v' w' h2 h3 h4 h5
theorem wpList_append_ptr {w : World} {ops : Array Oper} {rest : List Oper} {o : Oper} {a : Act} {Q : Exit → Act → World → Prop} (hgd : o.guard = none) (s x : Operand) (t : TypeId)
    (ho : o.op = .call { callee := .builtin .append, args := #[s, x], argTypes := #[t, t] }) (base : Nat) (i : TypeInfo) (ht : P.underlying t = some (.slice 23)) (hi : P.info? 23 = some i) (hz : i.zero = some (.pointer none)) (hsize : i.size = 1) (hby : i.bytes = 8)
    (v : Value) (ps : List (Option Addr)) (hs : a.eval s = v) (h : PRow w base v ps) (ad : Addr) (hx : a.eval x = .slice (some ad) 1 1) (q : Option Addr) (hc : w.cell? ad = some (.pointer q)) (hl : ps.length < 1000000) (hb : base ≤ w.heap.size)
    (hk : ∀ v' w', PRow w' base v' (ps ++ [q]) → KeepI w w' → Below base w w' → (∀ k, k < w.heap.size → v.ownBlock ≠ some k → w'.heap[k]? = w.heap[k]?) → wpList P ops Q rest (a.put o.dst v') w') : wpList P ops Q (o :: rest) a w :=
  wpList_plain hgd fun _ hK => wp_append_ptr s x t ho base i ht hi hz hsize hby v ps hs h ad hx q hc hl hb fun v' w' h2 h3 h4 h5 => hK _ _ (hk v' w' h2 h3 h4 h5)
end
end Go.Proofs.YtgpbpgpolpakjaaGreatDoor
