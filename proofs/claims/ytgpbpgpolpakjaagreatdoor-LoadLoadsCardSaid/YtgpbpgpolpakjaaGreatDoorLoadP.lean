/- Proof text. -/
import Derived.Test.YtgpbpgpolpakjaaGreatDoorSemiX
import Derived.Test.YtgpbpgpolpakjaaGreatDoorTabB
import Derived.Test.YtgpbpgpolpakjaaGreatDoorSplitP
import Derived.Test.YtgpbpgpolpakjaaGreatDoorRefT
import Derived.Test.YtgpbpgpolpakjaaGreatDoorLawSemiP
import Derived.Test.YtgpbpgpolpakjaaGreatDoorTabG
import Derived.Test.YtgpbpgpolpakjaaGreatDoorTabH
import Derived.Test.YtgpbpgpolpakjaaGreatDoorSemiW
set_option maxHeartbeats 4000000
set_option linter.unusedVariables false
set_option linter.unusedSimpArgs false
set_option maxRecDepth 100000
namespace Go.Proofs.YtgpbpgpolpakjaaGreatDoor
open Go.RowKit Go.Shelf L
def za9 (w w' : World) : Prop :=
 w.heap.size ≤ w'.heap.size ∧ (∀ k t cs, za w k t cs → t ≠ 92 → t ≠ 23 → za w' k t cs) ∧ ∀ p k i, w.cell? p = some (.int k i) → w'.cell? p = some (.int k i)
theorem za9.trans {a b c : World} (h : za9 a b) (k : za9 b c) : za9 a c := ⟨Nat.le_trans h.1 k.1, fun i t cs hi h1 h2 => k.2.1 i t cs (h.2.1 i t cs hi h1 h2) h1 h2, fun p i j hp => k.2.2 p i j (h.2.2 p i j hp)⟩
theorem za9.below {w w' : World} (h : Below w.heap.size w w') : za9 w w' :=
 ⟨h.size, fun k t cs hk _ _ => hk.below h, fun p k i hp => (h.cell (World.block_lt_of_cell? w _ hp)).trans hp⟩
theorem za9.set {w : World} {g i : Nat} {t : TypeId} {cs : Array Value} (hg : za w g t cs) (ht : t = 92 ∨ t = 23) {u : Value} (hu : w.cell? ⟨g, i, none⟩ = some u) (hn : ∀ k n, u ≠ .int k n) (x : Value) : za9 w (w.setCell ⟨g, i, none⟩ x) := by
 refine ⟨by simp, fun k t' cs' hk h1 h2 => hk.far (p := ⟨g, i, none⟩) (hk.ne_ hg (fun e => ?_)) _, fun p k n hp => ?_⟩
 ·rcases ht with rfl | rfl
  ·exact h1 e
  ·exact h2 e
 ·rw [World.cell?_setCell_other w _ _ _ (fun e => ?_)]
  ·exact hp
  ·rw [← e, hu] at hp
   exact hn k n (Option.some.inj hp)
theorem Lst.keepI {w w' : World} {A : Option Addr} {xs : List Value} (h : Lst w A xs) (hx : zoa xs) (hk : za9 w w') : Lst w' A xs := fun i u hu => by
 obtain ⟨ad, e, hc⟩ := h i u hu
 obtain ⟨k, n, rfl⟩ := hx u (List.mem_of_getElem? hu)
 exact ⟨ad, e, hk.2.2 _ _ _ hc⟩
theorem zo.keepI {w w' : World} {r : Nat} {A : Option Addr} {c : Nat} {bs : List Bool} (h : zo w r A c bs) (hk : za9 w w') : zo w' r A c bs :=
 zo.mk (hk.2.1 _ _ _ h.blk (by decide) (by decide)) (h.lst.keepI (zf5 _) hk) h.small
theorem zab.keepI {w w' : World} {r gd gx : Nat} {A : Option Addr} {c : Nat} {bs : List Bool} {Ad : Option Addr} {cd : Nat} {A1 : Option Addr} {c1 : Nat} {l1 : List Nat} {A0 : Option Addr} {c0 : Nat} {l0 : List Nat} (h : zab w r gd gx A c bs Ad cd A1 c1 l1 A0 c0 l0) (hk : za9 w w') : zab w' r gd gx A c bs Ad cd A1 c1 l1 A0 c0 l0 := by
 obtain ⟨h1, h2, h3, ⟨h4, h5, h6⟩, h7⟩ := h
 exact ⟨hk.2.1 _ _ _ h1 (by decide) (by decide), h2.keepI (zd3 _) hk, h3.keepI (zd3 _) hk, ⟨hk.2.1 _ _ _ h4 (by decide) (by decide), h5.keepI (zf5 _) hk, h6.keepI hk⟩, h7⟩
theorem za4.keepI {w w' : World} {s : Nat} {l : List Nat} {B : Nat} (h : za4 w s l B) (hk : za9 w w') : za4 w' s l B := by
 obtain ⟨gl, Al, cl, gc, gd, gx, A, c, Ad, cd, A1, c1, l1, A0, c0, l0, h1, h2, h3⟩ := h
 exact ⟨gl, Al, cl, gc, gd, gx, A, c, Ad, cd, A1, c1, l1, A0, c0, l0, hk.2.1 _ _ _ h1 (by decide) (by decide), h2.keepI hk, h3.keepI hk⟩
theorem zcc.keepI {w w' : World} {s : Nat} {bs : List Bool} (h : zcc w s bs) (hk : za9 w w') : zcc w' s bs := by
 obtain ⟨gx, gt, gl, gc, gd, A, c, hh, Ad, cd, A1, c1, l1, A0, c0, l0, h1, ⟨t1, t2, t3, t4⟩, h3⟩ := h
 exact ⟨gx, gt, gl, gc, gd, A, c, hh, Ad, cd, A1, c1, l1, A0, c0, l0, hk.2.1 _ _ _ h1 (by decide) (by decide), ⟨hk.2.1 _ _ _ t1 (by decide) (by decide), hk.2.1 _ _ _ t2 (by decide) (by decide), t3.keepI hk, t4⟩, h3.keepI hk⟩
theorem zbo.keepI {w w' : World} {g : Nat} {s : ByteArray} (h : zbo w g s) (hk : za9 w w') : zbo w' g s := by
 obtain ⟨q, x, t, Ax, cx, h1, h2, h3, h4⟩ := h
 exact ⟨q, x, t, Ax, cx, hk.2.1 _ _ _ h1 (by decide) (by decide), h2.keepI hk, h3.keepI hk, h4.keepI hk⟩
def PRow (w : World) (base : Nat) (v : Value) (ps : List (Option Addr)) : Prop :=
 (v = .slice none 0 0 ∧ ps = []) ∨ ∃ g cap cur, v = .slice (some ⟨g, 0, none⟩) ps.length cap ∧ base ≤ g ∧ ps.length ≤ cap ∧ cap ≤ maxLen ∧ za w g 23 cur ∧ cur.size = cap ∧ (∀ j, j < cap → ∃ p, cur[j]? = some (Value.pointer p)) ∧ ∀ (j : Nat) (p : Option Addr), ps[j]? = some p → cur[j]? = some (Value.pointer p)
theorem PRow.lst {w : World} {base : Nat} {A : Option Addr} {n c : Nat} {ps : List (Option Addr)} (h : PRow w base (.slice A n c) ps) : Lst w A (ps.map Value.pointer) ∧ n = ps.length := by
 rcases h with ⟨h1, rfl⟩ | ⟨g, cap, cur, h1, _, _, _, hb, _, _, h5⟩
 ·cases h1
  exact ⟨Lst.nil_ _ _, rfl⟩
 ·cases h1
  refine ⟨fun i u hu => ⟨_, rfl, ?_⟩, rfl⟩
  rw [List.getElem?_map] at hu
  obtain ⟨p, hp, rfl⟩ := Option.map_eq_some_iff.1 hu
  rw [zdk, hb.cell]
  exact h5 i p hp
theorem PRow.kept {w w' : World} {base : Nat} {v : Value} {ps : List (Option Addr)} (h : PRow w base v ps) (hk : ∀ g, base ≤ g → g < w.heap.size → (∃ cur, za w g 23 cur) → w'.heap[g]? = w.heap[g]?) : PRow w' base v ps := by
 rcases h with h | ⟨g, cap, cur, h1, h2, h3, h4, h5, h6⟩
 ·exact .inl h
 ·exact .inr ⟨g, cap, cur, h1, h2, h3, h4, h5.kept (hk g h2 h5.lt ⟨cur, h5⟩), h6⟩
theorem PRow.below {w w' : World} {base : Nat} {v : Value} {ps : List (Option Addr)} (h : PRow w base v ps) (hb : Below w.heap.size w w') : PRow w' base v ps := h.kept fun g _ hg _ => hb.block g hg
theorem PRow.far {w : World} {base : Nat} {v : Value} {ps : List (Option Addr)} (h : PRow w base v ps) {p : Addr} (hp : p.block < base) (u : Value) : PRow (w.setCell p u) base v ps := h.kept fun g hg _ _ => Below.heap_setCell w p u g (by omega)
theorem PRow.slice {w : World} {base : Nat} {v : Value} {ps : List (Option Addr)} (h : PRow w base v ps) : ∃ A c, v = .slice A ps.length c := by
 rcases h with ⟨rfl, rfl⟩ | ⟨g, cap, cur, rfl, _⟩
 ·exact ⟨_, _, rfl⟩
 ·exact ⟨_, _, rfl⟩
theorem PRow.lt {w : World} {base : Nat} {v : Value} {ps : List (Option Addr)} (h : PRow w base v ps) : ∀ k, v.ownBlock = some k → base ≤ k ∧ k < w.heap.size := fun k hk => by
 rcases h with ⟨rfl, rfl⟩ | ⟨g, cap, cur, rfl, h2, _, _, h5, _⟩
 ·cases hk
 ·cases hk; exact ⟨h2, h5.lt⟩
section
variable {P : Program}
theorem zpk {w : World} {base : Nat} {v : Value} {ps : List (Option Addr)} (h : PRow w base v ps) (t ty : TypeId) (i : TypeInfo) (ht : P.underlying t = some (.slice 23)) (hi : P.info? 23 = some i) (hz : i.zero = some (.pointer none)) (hsize : i.size = 1) (hby : i.bytes = 8)
  (a : Addr) (q : Option Addr) (hc : w.cell? a = some (.pointer q)) (hl : ps.length < 1000000) (hb : base ≤ w.heap.size) :
  ∃ v' w', (Builtin.append_ #[t, t] ty #[v, .slice (some a) 1 1]).run P w = .ok v' w' ∧ PRow w' base v' (ps ++ [q]) ∧ za9 w w' ∧ Below base w w' ∧ ∀ k, k < w.heap.size → v.ownBlock ≠ some k → w'.heap[k]? = w.heap[k]? := by
 have hnews : ∀ j u, [Value.pointer q][j]? = some u → w.cell? (a.add j) = some u := fun j u hj => by
  rcases j with _ | j
  ·simp only [List.getElem?_cons_zero, Option.some.injEq] at hj
   have e : a.add 0 = a := by unfold Addr.add; rfl
   rw [e, hc, hj]
  ·simp at hj
 have fresh : ∀ (cap : Nat), ps.length + 1 ≤ cap → cap ≤ maxLen → PRow (w.drew.alloc (.cells ((ps.map Value.pointer).toArray ++ [Value.pointer q].toArray ++ Builtin.zeroCells (Value.pointer none).cells (cap - (ps.length + 1))) 23)) base (.slice (some ⟨w.heap.size, 0, none⟩) (ps ++ [q]).length cap) (ps ++ [q]) ∧ za9 w (w.drew.alloc (.cells ((ps.map Value.pointer).toArray ++ [Value.pointer q].toArray ++ Builtin.zeroCells (Value.pointer none).cells (cap - (ps.length + 1))) 23)) ∧ Below base w (w.drew.alloc (.cells ((ps.map Value.pointer).toArray ++ [Value.pointer q].toArray ++ Builtin.zeroCells (Value.pointer none).cells (cap - (ps.length + 1))) 23)) := by
  intro cap h1 h2
  have hB : Below w.heap.size w (w.drew.alloc (.cells ((ps.map Value.pointer).toArray ++ [Value.pointer q].toArray ++ Builtin.zeroCells (Value.pointer none).cells (cap - (ps.length + 1))) 23)) := (Below.refl _ _).drew.alloc (Nat.le_refl _) _
  have hz : ∀ m j, j < m → (Builtin.zeroCells (Value.pointer none).cells m)[j]? = some (Value.pointer none) := fun m j hj => by
   have e : (Value.pointer none).cells = #[Value.pointer none] := rfl
   rw [e]
   unfold Builtin.zeroCells
   simp [hj, Nat.mod_one]
  have hzs : ∀ m, (Builtin.zeroCells (Value.pointer none).cells m).size = m := fun m => by rw [size_zeroCells]; show m * 1 = m; omega
  have hsz : ((ps.map Value.pointer).toArray ++ [Value.pointer q].toArray ++ Builtin.zeroCells (Value.pointer none).cells (cap - (ps.length + 1))).size = cap := by
   rw [Array.size_append, Array.size_append, hzs]; simp; omega
  have hget : ∀ j, j < cap → ((ps.map Value.pointer).toArray ++ [Value.pointer q].toArray ++ Builtin.zeroCells (Value.pointer none).cells (cap - (ps.length + 1)))[j]? = some (Value.pointer (((ps ++ [q])[j]?).getD none)) := fun j hj => by
   rcases Nat.lt_or_ge j (ps.length + 1) with h3 | h3
   ·rw [Array.getElem?_append_left (by simp; omega)]
    rw [show (ps.map Value.pointer).toArray ++ [Value.pointer q].toArray = ((ps ++ [q]).map Value.pointer).toArray by simp]
    rw [List.getElem?_toArray, List.getElem?_map, List.getElem?_eq_getElem (by simp; omega)]; rfl
   ·rw [Array.getElem?_append_right (by simp; omega), hz _ _ (by simp; omega), List.getElem?_eq_none (by simp; omega)]; rfl
  refine ⟨.inr ⟨w.heap.size, cap, _, rfl, hb, by rw [List.length_append]; exact h1, h2, za.new w.drew _ _, hsz, fun j hj => ⟨_, hget j hj⟩, fun j p hp => ?_⟩, za9.below hB, hB.mono hb⟩
  have hj : j < ps.length + 1 := by
   have := (List.getElem?_eq_some_iff.1 hp).1
   rwa [List.length_append] at this
  rw [hget j (by omega), hp]; rfl
 rcases h with ⟨rfl, rfl⟩ | ⟨g, cap, cur, rfl, h2, h3, h4, h5, h6, h7, h8⟩
 ·have hge := grownCap_ge w 1 0 23
  have hcm := grownCap_le_maxLen w 1 0 23 (by simp only [maxLen]; omega)
  have hr := Go.run_append_nil (P := P) w t ty 23 i _ ht hi hz a 1 1 [Value.pointer q] (by rw [hsize]; rfl) hnews (by omega) (by omega) (by rw [hby]; omega)
  obtain ⟨f1, f2, f3⟩ := fresh _ hge hcm
  exact ⟨_, _, hr, f1, f2, f3, fun k hk _ => Below.heap_alloc w.drew _ k hk⟩
 ·have hcell : ∀ j, w.cell? ⟨g, j, none⟩ = cur[j]? := fun j => h5.cell j
  by_cases hr : ps.length + 1 ≤ cap
  ·obtain ⟨p0, hp0⟩ := h7 ps.length (by omega)
   have hrun := run_append_room_cells (P := P) w t ty 23 i ht hi g 0 ps.length cap a 1 1 [Value.pointer q] (by rw [hsize]; rfl) hnews (by simp [Value.oneCell']) hr
    (fun j hj => by simp at hj; subst hj; rw [hsize]; simp [hcell, hp0])
    (fun j hj => h5.frozen _)
   rw [hsize, Nat.mul_one, Nat.zero_add] at hrun
   have hK : za9 w (w.setCell ⟨g, ps.length, none⟩ (Value.pointer q)) := za9.set h5 (.inr rfl) ((hcell _).trans hp0) (fun k n e => by cases e) _
   have hB : Below base w (w.setCell ⟨g, ps.length, none⟩ (Value.pointer q)) := (Below.refl base w).setCell (p := ⟨g, ps.length, none⟩) h2 _
   have hP := h5.put ps.length (Value.pointer q)
   have hss : ∀ j, (cur.setIfInBounds ps.length (Value.pointer q))[j]? = if j = ps.length then some (Value.pointer q) else cur[j]? := fun j => by
    rw [Array.getElem?_setIfInBounds]
    by_cases e : j = ps.length
    ·subst e; rw [if_pos rfl, if_pos rfl, if_pos (by omega)]
    ·rw [if_neg (fun e2 => e e2.symm), if_neg e]
   refine ⟨_, _, hrun, .inr ⟨g, cap, _, by rw [List.length_append]; rfl, h2, by rw [List.length_append]; exact hr, h4, hP, by rw [Array.size_setIfInBounds]; exact h6, fun j hj => ?_, fun j p hp => ?_⟩, hK, hB, fun k _ hk => Below.heap_setCell w ⟨g, ps.length, none⟩ _ k (fun e => hk (by rw [e]; rfl))⟩
   ·rw [hss]
    split
    ·exact ⟨_, rfl⟩
    ·exact h7 j hj
   ·rw [hss]
    have hj : j < ps.length + 1 := by
     have := (List.getElem?_eq_some_iff.1 hp).1
     rwa [List.length_append] at this
    split
    ·rename_i e
     subst e
     rw [List.getElem?_append_right (Nat.le_refl _)] at hp
     simp at hp
     rw [hp]
    ·rw [List.getElem?_append_left (by omega)] at hp
     exact h8 j p hp
  ·have hge := grownCap_ge w (ps.length + 1) cap 23
   have hcm := grownCap_le_maxLen w (ps.length + 1) cap 23 (by simp only [maxLen]; omega)
   have holds : ∀ j u, (ps.map Value.pointer)[j]? = some u → w.cell? ((⟨g, 0, none⟩ : Addr).add j) = some u := fun j u hj => by
    rw [List.getElem?_map] at hj
    obtain ⟨p, hp, rfl⟩ := Option.map_eq_some_iff.1 hj
    rw [zdk, hcell]
    exact h8 j p hp
   have hr2 := run_append_grow (P := P) w t ty 23 i _ ht hi hz ⟨g, 0, none⟩ ps.length cap (ps.map Value.pointer) (by rw [hsize]; simp) holds a 1 1 [Value.pointer q] (by rw [hsize]; rfl) hnews (by omega) (by omega) (growslice_fits (by omega) (by rw [hby]; omega))
   obtain ⟨f1, f2, f3⟩ := fresh _ hge hcm
   exact ⟨_, _, hr2, by rw [List.length_append] at f1; exact f1, f2, f3, fun k hk _ => Below.heap_alloc w.drew _ k hk⟩
theorem zrd {w : World} {o : Oper} {a : Act} {K : Act → World → Prop} {Q : Exit → Act → World → Prop} (s x : Operand) (t : TypeId)
  (ho : o.op = .call { callee := .builtin .append, args := #[s, x], argTypes := #[t, t] }) (base : Nat) (i : TypeInfo) (ht : P.underlying t = some (.slice 23)) (hi : P.info? 23 = some i) (hz : i.zero = some (.pointer none)) (hsize : i.size = 1) (hby : i.bytes = 8)
  (v : Value) (ps : List (Option Addr)) (hs : a.eval s = v) (h : PRow w base v ps) (ad : Addr) (hx : a.eval x = .slice (some ad) 1 1) (q : Option Addr) (hc : w.cell? ad = some (.pointer q)) (hl : ps.length < 1000000) (hb : base ≤ w.heap.size)
  (hk : ∀ v' w', PRow w' base v' (ps ++ [q]) → za9 w w' → Below base w w' → (∀ k, k < w.heap.size → v.ownBlock ≠ some k → w'.heap[k]? = w.heap[k]?) → K (a.put o.dst v') w') : o.wp P a w K Q := by
 obtain ⟨v', w', hrun, h2, h3, h4, h5⟩ := zpk (P := P) h t o.type i ht hi hz hsize hby ad q hc hl hb
 unfold Oper.wp execOp
 simp only [ho, resolve, invoke, builtin, Sem.run_bind, Sem.run_pure, Result.andThen_ok, List.map_toArray, List.map_cons, List.map_nil, hs, hx, hrun]
 exact hk v' w' h2 h3 h4 h5
theorem zer {w : World} {ops : Array Oper} {rest : List Oper} {o : Oper} {a : Act} {Q : Exit → Act → World → Prop} (hgd : o.guard = none) (s x : Operand) (t : TypeId)
  (ho : o.op = .call { callee := .builtin .append, args := #[s, x], argTypes := #[t, t] }) (base : Nat) (i : TypeInfo) (ht : P.underlying t = some (.slice 23)) (hi : P.info? 23 = some i) (hz : i.zero = some (.pointer none)) (hsize : i.size = 1) (hby : i.bytes = 8)
  (v : Value) (ps : List (Option Addr)) (hs : a.eval s = v) (h : PRow w base v ps) (ad : Addr) (hx : a.eval x = .slice (some ad) 1 1) (q : Option Addr) (hc : w.cell? ad = some (.pointer q)) (hl : ps.length < 1000000) (hb : base ≤ w.heap.size)
  (hk : ∀ v' w', PRow w' base v' (ps ++ [q]) → za9 w w' → Below base w w' → (∀ k, k < w.heap.size → v.ownBlock ≠ some k → w'.heap[k]? = w.heap[k]?) → wpList P ops Q rest (a.put o.dst v') w') : wpList P ops Q (o :: rest) a w :=
 wpList_plain hgd fun _ hK => zrd s x t ho base i ht hi hz hsize hby v ps hs h ad hx q hc hl hb fun v' w' h2 h3 h4 h5 => hK _ _ (hk v' w' h2 h3 h4 h5)
end
open Go.RowKit Go.Shelf L
theorem Tryz.infoPtr : (Tryz.prog.info? 23).map (fun i => (i.zero, i.size, i.bytes)) = some (some (.pointer none), 1, 8) := by kernel_rfl
def zfq (w : World) (s : ByteArray) (rs : List RecN) (ps : List (Option Addr)) : Prop :=
 ∀ (j : Nat) (r : RecN), j < ps.length → rs[j]? = some r → (r.v = 1 → ∃ gi, ps[j]? = some (some ⟨gi, 0, none⟩) ∧ zbo w gi (s.extract r.a r.b)) ∧ (r.v ≠ 1 → ps[j]? = some none)
theorem zfq.keepI {w w' : World} {s : ByteArray} {rs : List RecN} {ps : List (Option Addr)} (h : zfq w s rs ps) (hk : za9 w w') : zfq w' s rs ps := fun j r hj hr =>
 ⟨fun hv => by obtain ⟨gi, h1, h2⟩ := (h j r hj hr).1 hv; exact ⟨gi, h1, h2.keepI hk⟩, (h j r hj hr).2⟩
theorem zfq.snoc {w : World} {s : ByteArray} {rs : List RecN} {ps : List (Option Addr)} {q : Option Addr} (h : zfq w s rs ps) (hq : ∀ r, rs[ps.length]? = some r → (r.v = 1 → ∃ gi, q = some ⟨gi, 0, none⟩ ∧ zbo w gi (s.extract r.a r.b)) ∧ (r.v ≠ 1 → q = none)) : zfq w s rs (ps ++ [q]) := fun j r hj hr => by
 rw [List.length_append] at hj
 rcases Nat.lt_or_ge j ps.length with h1 | h1
 ·rw [List.getElem?_append_left h1]; exact h j r h1 hr
 ·obtain rfl : j = ps.length := by simp at hj; omega
  rw [List.getElem?_append_right (Nat.le_refl _)]
  have := hq r hr
  refine ⟨fun hv => ?_, fun hv => by rw [this.2 hv]; simp⟩
  obtain ⟨gi, h1, h2⟩ := this.1 hv
  exact ⟨gi, by rw [h1]; simp, h2⟩
def zc0 (w : World) (g : Nat) (s : ByteArray) (deep : Nat) : Prop :=
 ∃ Al cl Ai ci ps, za w g 92 #[.string s, .int .i64 (deep : Nat), .slice Al (recs (nb s) deep).length cl, .slice Ai (recs (nb s) deep).length ci] ∧ Lst w Al (recC (recs (nb s) deep)) ∧ Lst w Ai (ps.map Value.pointer) ∧ ps.length = (recs (nb s) deep).length ∧ zfq w s (recs (nb s) deep) ps
theorem zc0.below {w w' : World} {g : Nat} {s : ByteArray} {deep : Nat} (h : zc0 w g s deep) (hb : Below w.heap.size w w') : zc0 w' g s deep := by
 obtain ⟨Al, cl, Ai, ci, ps, h1, h2, h3, h4, h5⟩ := h
 exact ⟨Al, cl, Ai, ci, ps, h1.below hb, h2.below hb, h3.below hb, h4, h5.keepI (za9.below hb)⟩
def zk7 (s : ByteArray) (deep : Nat) (w : World) (e : Ending) (w' : World) : Prop :=
 ∃ g, e = .returned (.tuple #[.pointer (some ⟨g, 0, none⟩), .int .i64 0]) ∧ zc0 w' g s deep ∧ Below w.heap.size w w'
theorem z4l (s : ByteArray) (deep : Nat) (w : World) (hs : s.size ≤ 4096) (h1 : 1 ≤ deep) (h2 : deep ≤ 4096) :
  Calls Tryz.prog 18 #[.string s, .int .i64 (deep : Nat)] w (zk7 s deep w) := by
 obtain ⟨i0, hi, iz0, iz1, iz2⟩ := info_parts Tryz.infoPtr
 have hfew := ze5 (nb s) deep
 rw [zf] at hfew
 have HR := hid (fun W => zmb s deep W (by omega) h1 h2 (by rw [← zda _ deep]; omega))
 have HOK := hid (fun r (hr : r ∈ recs (nb s) deep) => zhf hr hs)
 have HPO := hid (show ∀ w' g Al cl Ai ci ps, za w' g 92 #[.string s, .int .i64 (deep : Nat), .slice Al (recs (nb s) deep).length cl, .slice Ai (recs (nb s) deep).length ci] → Lst w' Al (recC (recs (nb s) deep)) → Lst w' Ai (ps.map Value.pointer) → ps.length = (recs (nb s) deep).length → zfq w' s (recs (nb s) deep) ps → Below w.heap.size w w' → zk7 s deep w (.returned (.tuple #[.pointer (some ⟨g, 0, none⟩), .int .i64 0])) w' from fun w' g Al cl Ai ci ps a1 a2 a3 a4 a5 a6 => ⟨g, rfl, ⟨Al, cl, Ai, ci, ps, a1, a2, a3, a4, a5⟩, a6⟩)
 have HTX := hid (fun a b v p W => zof s a b (.int .i64 v) (.int .i64 p) rfl rfl W (by omega))
 have HLO := hid (fun a (h : a ≤ s.size) => zua s.size a h)
 have HHI := hid (fun a b (h : a ≤ b) (h2 : b ≤ s.size) => z1a s.size a b h h2)
 have HNB := hid (fun a b => zgi s a b)
 have hdw : (deep : Int) ≤ 4096 := by omega
 clear h1
 generalize recs (nb s) deep = X at *
 go_enter Tryz.func18, Tryz.ntmps18
 go_wp2_with fail
 refine (HR.out _).mono ?_
 rintro e w1 ⟨Al, cl, rfl, hown1, hB1⟩
 have hl1 := zdq hown1 (by omega)
 have hX2 := za.new w1 92 #[.string s, .int .i64 (deep : Nat), .slice Al X.length cl, .slice none 0 0]
 have hB12 : Below w1.heap.size w1 (w1.alloc (.cells #[.string s, .int .i64 (deep : Nat), .slice Al X.length cl, .slice none 0 0] 92)) := (Below.refl _ _).alloc (Nat.le_refl _) _
 have hs2 : (w1.alloc (.cells #[.string s, .int .i64 (deep : Nat), .slice Al X.length cl, .slice none 0 0] 92)).heap.size = w1.heap.size + 1 := by simp
 clear hown1 HR
 go_wp2_with fail
 generalize w1.alloc (.cells #[.string s, .int .i64 (deep : Nat), .slice Al X.length cl, .slice none 0 0] 92) = W2 at *
 have hz1 := hB1.size
 obtain ⟨G, hG⟩ : ∃ G, G = w1.heap.size := ⟨_, rfl⟩
 rw [← hG] at hX2 hs2 hz1 hB12 ⊢
 have hlk := hid (show ∀ wr, Below G w1 wr → Lst wr Al (recC X) from fun wr hb => hl1.below (by rw [← hG]; exact hb))
 have hBw := hid (show ∀ wr, Below G w1 wr → Below w.heap.size w wr from fun wr hb => hB1.trans (hb.mono hz1))
 have hGe : G ≤ w1.heap.size := by omega
 clear hG hl1
 go_loopw [28] (fun iv wr => ∃ (k : Nat) (ps : List (Option Addr)) (v : Value), k ≤ X.length ∧ iv = .int .i64 (k : Nat) ∧ ps.length = k ∧ za wr G 92 #[.string s, .int .i64 (deep : Nat), .slice Al X.length cl, v] ∧ PRow wr (G + 1) v ps ∧ Below G w1 wr ∧ zfq wr s X ps) (fun iv _ => X.length - (intOf iv).toNat)
 case atStart => exact ⟨0, [], _, by omega, rfl, rfl, hX2, .inl ⟨rfl, rfl⟩, hB12, fun j r hj => by simp at hj⟩
 case round =>
  obtain ⟨k, ps, v, hk, rfl, rfl, hX, hP, hB, hOk⟩ := hrel
  clear hX2 hB12
  have hz : G ≤ wr.heap.size := by have := hB.size; omega
  have hXl := hX.lt
  rcases Nat.lt_or_ge ps.length X.length with hlt | hge
  ·have hki : (ps.length : Int) < (X.length : Int) := by omega
   have hk0 : (0 : Int) ≤ (ps.length : Int) := by omega
   have hkW := zg ps.length (by omega)
   obtain ⟨gl, ol, rfl, k0, k1, k2, k3⟩ := zfg (hlk.out _ hB) hlt
   have hr := HOK.out X[ps.length] (List.getElem_mem hlt)
   have hXk : X[ps.length]? = some X[ps.length] := List.getElem?_eq_getElem hlt
   generalize X[ps.length] = r at *
   obtain ⟨ra, rb, rv, rp⟩ := r
   dsimp only at k0 k1 k2 k3 hr
   obtain ⟨q1, q2, q3, q4, q5, q6, q7⟩ := hr
   have hlo := HLO.out ra (by omega)
   have hhi := HHI.out ra rb q1 q2
   have HT1 := hid (fun W => HTX.out (ra : Nat) (rb : Nat) (rv : Nat) (rp : Nat) W)
   rw [hlo, hhi] at HT1
   have hXa := hX.alloc (.cells #[.int .i64 (ra : Nat), .int .i64 (rb : Nat), .int .i64 (rv : Nat), .int .i64 (rp : Nat)] 96)
   have hRa := za.new wr 96 #[.int .i64 (ra : Nat), .int .i64 (rb : Nat), .int .i64 (rv : Nat), .int .i64 (rp : Nat)]
   have hBa : Below wr.heap.size wr (wr.alloc (.cells #[.int .i64 (ra : Nat), .int .i64 (rb : Nat), .int .i64 (rv : Nat), .int .i64 (rp : Nat)] 96)) := (Below.refl _ _).alloc (Nat.le_refl _) _
   have e0 := hRa.cell 0
   have e1 := hRa.cell 1
   have e2 := hRa.cell 2
   have e3 := hRa.cell 3
   clear hlo hhi HTX HLO HHI
   by_cases hv : rv = 1
   ·subst hv
    have hlook := q6 rfl h2
    have HMK := hid (fun W => zve (s.extract ra rb) W (by rw [HNB.out]; exact hlook) (by rw [HNB.out, zah]; have := zbg (sub_ (nb s) ra rb); unfold sub_ at *; omega))
    clear q6 hlook q7
    go_wp2_with fail
    refine (HT1.out _).mono ?_
    rintro e w3 ⟨rfl, hB3⟩
    go_wp2_with fail
    refine (HMK.out _).mono ?_
    rintro e w5 ⟨gi, rfl, hgi, hB4⟩
    have hB5 : Below wr.heap.size wr w5 := (hBa.trans (hB3.mono hBa.size)).trans (hB4.mono (hBa.trans (hB3.mono hBa.size)).size)
    clear hXa hRa hBa e0 e1 e2 e3 hB3 hB4
    have hz5 := hB5.size
    have hX5 : za w5 G 92 #[.string s, .int .i64 (deep : Nat), .slice (some ⟨gl, ol, none⟩) X.length cl, v] := hX.below hB5
    have hP5 := hP.below hB5
    have hB05 := hB.trans (hB5.mono hz)
    have x3 := hX5.cell 3
    obtain ⟨Av, cv, rfl⟩ := hP5.slice
    have hbs := hP5.lt
    go_wp2_with (at_builtin
                 go_must (refine zer rfl (.tmp 46) (.tmp 48) 90 rfl (G + 1) i0 Tryz.underlying90 hi iz0 iz1 iz2 (.slice Av ps.length cv) ps rfl (hP5.below ((Below.refl _ _).alloc (Nat.le_refl _) _)) ⟨w5.heap.size, 0, none⟩ rfl (some ⟨gi, 0, none⟩) ?hc ?hlen ?hbb ?_)
                 go_must (case hc => exact (za.new w5 23 #[.pointer (some ⟨gi, 0, none⟩)]).cell 0)
                 go_must (case hlen => omega)
                 go_must (case hbb => simp; omega)
                 intro v6 w6 hP6 hK6 hB6 hO6
                 obtain ⟨Av6, cv6, rfl⟩ := hP6.slice
                 have hX6 : za w6 G 92 #[.string s, .int .i64 (deep : Nat), .slice (some ⟨gl, ol, none⟩) X.length cl, .slice Av ps.length cv] := (hX5.alloc _).kept (hO6 G (by simp; omega) (fun e => by have := (hbs G e).1; omega))
                 have x3 := hX6.cell 3
                 have f3 := hX6.frozen 3)
    have hKA : za9 w5 w6 := (za9.below ((Below.refl _ _).alloc (Nat.le_refl _) (.cells #[.pointer (some ⟨gi, 0, none⟩)] 23))).trans hK6
    have hKS := za9.set hX6 (.inl rfl) x3 (fun k n e => by cases e) (.slice Av6 (ps.length + 1) cv6)
    have hBS : Below G w1 (w6.setCell ⟨G, 3, none⟩ (.slice Av6 (ps.length + 1) cv6)) := ((hB05.alloc (by omega) _).trans (hB6.mono (by omega))).setCell (p := ⟨G, 3, none⟩) (Nat.le_refl _) _
    have hP7 : PRow w6 (G + 1) (.slice Av6 (ps.length + 1) cv6) (ps ++ [(some ⟨gi, 0, none⟩)]) := by simpa using hP6
    have hPS := hP7.far (p := ⟨G, 3, none⟩) (by simp) (.slice Av6 (ps.length + 1) cv6)
    have hOkS := (hOk.keepI (((za9.below hB5).trans hKA).trans hKS)).snoc (q := (some ⟨gi, 0, none⟩)) (by
     intro r hr
     rw [hXk] at hr
     obtain rfl := Option.some.inj hr
     refine ⟨fun _ => ⟨gi, rfl, ?_⟩, fun hne => absurd rfl hne⟩
     exact (hgi.keepI hKA).keepI hKS)
    go_wp2_with fail
    go_roundw
    case rel => exact ⟨ps.length + 1, ps ++ [(some ⟨gi, 0, none⟩)], _, by omega, by go_num, by rw [List.length_append]; rfl, hX6.put 3 _, hPS, hBS, hOkS⟩
    case measure => simp [intOf]; omega
   ·have hvI : ¬ ((rv : Nat) : Int) = 1 := by omega
    have hvb : (((rv : Nat) : Int) == 1) = false := by rw [beq_eq_false_iff_ne]; exact hvI
    have hB5 := hBa
    have hz5 := hB5.size
    have hX5 : za (wr.alloc (.cells #[.int .i64 (ra : Nat), .int .i64 (rb : Nat), .int .i64 (rv : Nat), .int .i64 (rp : Nat)] 96)) G 92 #[.string s, .int .i64 (deep : Nat), .slice (some ⟨gl, ol, none⟩) X.length cl, v] := hX.below hB5
    have hP5 := hP.below hB5
    have hB05 := hB.trans (hB5.mono hz)
    have x3 := hX5.cell 3
    obtain ⟨Av, cv, rfl⟩ := hP5.slice
    have hz5s : (wr.alloc (.cells #[.int .i64 (ra : Nat), .int .i64 (rb : Nat), .int .i64 (rv : Nat), .int .i64 (rp : Nat)] 96)).heap.size = wr.heap.size + 1 := by simp
    have hbs := hP5.lt
    go_wp2_with (at_builtin
                 go_must (refine zer rfl (.tmp 46) (.tmp 48) 90 rfl (G + 1) i0 Tryz.underlying90 hi iz0 iz1 iz2 (.slice Av ps.length cv) ps rfl (hP5.below ((Below.refl _ _).alloc (Nat.le_refl _) _)) ⟨wr.heap.size + 1, 0, none⟩ rfl none ?hc ?hlen ?hbb ?_)
                 go_must (case hc => exact (show za _ (wr.heap.size + 1) _ _ from by have := za.new (wr.alloc (.cells #[.int .i64 (ra : Nat), .int .i64 (rb : Nat), .int .i64 (rv : Nat), .int .i64 (rp : Nat)] 96)) 23 #[.pointer none]; simpa using this).cell 0)
                 go_must (case hlen => omega)
                 go_must (case hbb => simp; omega)
                 intro v6 w6 hP6 hK6 hB6 hO6
                 obtain ⟨Av6, cv6, rfl⟩ := hP6.slice
                 have hX6 : za w6 G 92 #[.string s, .int .i64 (deep : Nat), .slice (some ⟨gl, ol, none⟩) X.length cl, .slice Av ps.length cv] := (hX5.alloc _).kept (hO6 G (by simp; omega) (fun e => by have := (hbs G e).1; omega))
                 have x3 := hX6.cell 3
                 have f3 := hX6.frozen 3)
    have hKA : za9 (wr.alloc (.cells #[.int .i64 (ra : Nat), .int .i64 (rb : Nat), .int .i64 (rv : Nat), .int .i64 (rp : Nat)] 96)) w6 := (za9.below ((Below.refl _ _).alloc (Nat.le_refl _) (.cells #[.pointer none] 23))).trans hK6
    have hKS := za9.set hX6 (.inl rfl) x3 (fun k n e => by cases e) (.slice Av6 (ps.length + 1) cv6)
    have hBS : Below G w1 (w6.setCell ⟨G, 3, none⟩ (.slice Av6 (ps.length + 1) cv6)) := ((hB05.alloc (by omega) _).trans (hB6.mono (by omega))).setCell (p := ⟨G, 3, none⟩) (Nat.le_refl _) _
    have hP7 : PRow w6 (G + 1) (.slice Av6 (ps.length + 1) cv6) (ps ++ [none]) := by simpa using hP6
    have hPS := hP7.far (p := ⟨G, 3, none⟩) (by simp) (.slice Av6 (ps.length + 1) cv6)
    have hOkS := (hOk.keepI (((za9.below hB5).trans hKA).trans hKS)).snoc (q := none) (by
     intro r hr
     rw [hXk] at hr
     obtain rfl := Option.some.inj hr
     exact ⟨fun hv1 => absurd hv1 hv, fun _ => rfl⟩)
    go_wp2_with fail
    go_roundw
    case rel => exact ⟨ps.length + 1, ps ++ [none], _, by omega, by go_num, by rw [List.length_append]; rfl, hX6.put 3 _, hPS, hBS, hOkS⟩
    case measure => simp [intOf]; omega
  ·have hpl : ps.length = X.length := by omega
   have hXN : ¬ ((ps.length : Int) < (X.length : Int)) := by omega
   have hHX := hid (hpl)
   clear hpl
   obtain ⟨Ai, ci, rfl⟩ := hP.slice
   go_wp2_with fail
   go_ret2
   exact HPO.out _ G Al cl Ai ci ps (by have hX' := hX; rw [hHX.out] at hX'; exact hX') (hlk.out _ hB) hP.lst.1 hHX.out hOk (hBw.out _ hB)
theorem zvt (g : Nat) (s : ByteArray) (deep : Nat) (w : World) (h : zc0 w g s deep) :
  Calls Tryz.prog 63 #[.pointer (some ⟨g, 0, none⟩)] w fun e w' => e = .returned (.string s) ∧ w = w' := by
 obtain ⟨Al, cl, Ai, ci, ps, h1, _⟩ := h
 have k0 := h1.cell 0
 clear h1
 go_enter Tryz.func63, Tryz.ntmps63
 go_wp2_with fail
 go_ret
 exact ⟨rfl, rfl⟩
theorem zvu (g : Nat) (s : ByteArray) (deep : Nat) (w : World) (h : zc0 w g s deep) :
  Calls Tryz.prog 22 #[.pointer (some ⟨g, 0, none⟩)] w fun e w' => e = .returned (.int .i64 (deep : Nat)) ∧ w = w' := by
 obtain ⟨Al, cl, Ai, ci, ps, h1, _⟩ := h
 have k0 := h1.cell 1
 clear h1
 go_enter Tryz.func22, Tryz.ntmps22
 go_wp2_with fail
 go_ret
 exact ⟨rfl, rfl⟩
theorem zoh (g : Nat) (s : ByteArray) (deep : Nat) (w : World) (h : zc0 w g s deep) :
  Calls Tryz.prog 59 #[.pointer (some ⟨g, 0, none⟩)] w fun e w' => e = .returned (.int .i64 ((recs (nb s) deep).length : Nat)) ∧ w = w' := by
 obtain ⟨Al, cl, Ai, ci, ps, h1, _⟩ := h
 have k0 := h1.cell 2
 clear h1
 generalize recs (nb s) deep = X at *
 go_enter Tryz.func59, Tryz.ntmps59
 go_wp2_with fail
 go_ret
 exact ⟨rfl, rfl⟩
theorem zjq (a b v p : Int) (w : World) :
  Calls Tryz.prog 70 #[.agg #[.int .i64 a, .int .i64 b, .int .i64 v, .int .i64 p]] w fun e w' => e = .returned (.agg #[.int .i64 a, .int .i64 b, .int .i64 v, .int .i64 p, .string ⟨#[]⟩]) ∧ Below w.heap.size w w' := by
 have hB0 : Below w.heap.size w (w.alloc (.cells #[.int .i64 a, .int .i64 b, .int .i64 v, .int .i64 p] 96)) := (Below.refl _ _).alloc (Nat.le_refl _) _
 have hs0 : (w.alloc (.cells #[.int .i64 a, .int .i64 b, .int .i64 v, .int .i64 p] 96)).heap.size = w.heap.size + 1 := by simp
 have hE := za.new (w.alloc (.cells #[.int .i64 a, .int .i64 b, .int .i64 v, .int .i64 p] 96)) 113 #[.int .i64 a, .int .i64 b, .int .i64 v, .int .i64 p, .string ⟨#[]⟩]
 rw [hs0] at hE
 have hB1 := hB0.alloc (by rw [hs0]; omega) (.cells #[.int .i64 a, .int .i64 b, .int .i64 v, .int .i64 p, .string ⟨#[]⟩] 113)
 clear hs0
 go_enter Tryz.func70, Tryz.ntmps70
 go_wp2_with fail
 (try simp only [Exit.inBlock, Exit.then])
 refine bodyPost_ret (results_cell_row rfl _ _ (w.heap.size + 1) 113 _ (0, 0) _ rfl hE zqs rfl (by kernel_rfl)) rfl ?_
 exact ⟨rfl, hB1⟩
theorem zk8 {P : Program} {fn : Func} {p u : Tmp} {ty : TypeId} (h : fn.results = #[.cell p ty, .tmp u]) (tmps : Array Value) (w : World) (g : Nat) (t : TypeId) (cs : Array Value)
  (hp : tmps.getD p undef = .pointer (some ⟨g, 0, none⟩)) (hg : za w g t cs)
  (hu : ∃ fs, P.underlying ty = some (.struct fs)) (hi : (P.info? ty).map (·.size) = some cs.size) :
  (results fn tmps).run P w = .ok (.tuple #[.agg cs, tmps.getD u undef]) w := zw h tmps w g t cs hp hg hu hi
theorem zqx : ∃ fs, Tryz.prog.underlying 96 = some (.struct fs) := ⟨_, by rfl⟩
theorem zuk : (Tryz.prog.info? 96).map (·.size) = some 4 := by rfl
def z1c (r : RecN) : Value := .agg #[.int .i64 (r.a : Nat), .int .i64 (r.b : Nat), .int .i64 (r.v : Nat), .int .i64 (r.p : Nat)]
theorem zul (g : Nat) (s : ByteArray) (deep : Nat) (i : Nat) (w : World) (h : zc0 w g s deep) (hi : i < (recs (nb s) deep).length) (hl : (recs (nb s) deep).length ≤ 100000) :
  Calls Tryz.prog 65 #[.pointer (some ⟨g, 0, none⟩), .int .i64 (i : Nat)] w fun e w' => e = .returned (.tuple #[z1c (recs (nb s) deep)[i], .int .i64 0]) ∧ Below w.heap.size w w' := by
 obtain ⟨Al, cl, Ai, ci, ps, h1, h2, _⟩ := h
 generalize recs (nb s) deep = X at *
 have hli : (i : Int) < (X.length : Int) := by omega
 have h0i : (0 : Int) ≤ (i : Int) := by omega
 have hR0 := za.new w 96 #[.int .i64 0, .int .i64 0, .int .i64 0, .int .i64 0]
 have hB0 : Below w.heap.size w (w.alloc (.cells #[.int .i64 0, .int .i64 0, .int .i64 0, .int .i64 0] 96)) := (Below.refl _ _).alloc (Nat.le_refl _) _
 have k2 := (h1.below hB0).cell 2
 have d1 : decide ((i : Int) < 0) = false := decide_eq_false (by omega)
 have d2 : decide ((X.length : Int) ≤ (i : Int)) = false := decide_eq_false (by omega)
 have d3 : decide (X.length ≤ i) = false := decide_eq_false (by omega)
 obtain ⟨gl, ol, rfl, q0, q1, q2, q3⟩ := zfg (h2.below hB0) hi
 have hR1 := za.new w 96 #[.int .i64 (X[i].a : Nat), .int .i64 (X[i].b : Nat), .int .i64 (X[i].v : Nat), .int .i64 (X[i].p : Nat)]
 have hgl := h1.lt
 have f0 := hR0.frozen 0
 have f1 := hR0.frozen 1
 have f2 := hR0.frozen 2
 have f3 := hR0.frozen 3
 have r0 := hR0.cell 0
 have r1 := hR0.cell 1
 have r2 := hR0.cell 2
 have r3 := hR0.cell 3
 clear h1 h2
 show Calls _ _ _ _ fun e w' => e = .returned (.tuple #[.agg #[.int .i64 (X[i].a : Nat), .int .i64 (X[i].b : Nat), .int .i64 (X[i].v : Nat), .int .i64 (X[i].p : Nat)], .int .i64 0]) ∧ Below w.heap.size w w'
 generalize X[i] = r at *
 go_enter Tryz.func65, Tryz.ntmps65
 go_wp2_with fail
 (try simp only [Exit.inBlock, Exit.then])
 refine bodyPost_ret (zk8 rfl _ _ w.heap.size _ _ rfl hR1 zqx zuk) rfl ?_
 exact ⟨rfl, (Below.refl _ _).alloc (Nat.le_refl _) _⟩
theorem zum (g : Nat) (s : ByteArray) (deep : Nat) (i : Int) (w : World) (h : zc0 w g s deep) (hi : i < 0 ∨ ((recs (nb s) deep).length : Int) ≤ i) :
  Calls Tryz.prog 66 #[.pointer (some ⟨g, 0, none⟩), .int .i64 i] w fun e w' => e = .returned (.tuple #[.pointer none, .int .i64 2]) ∧ w = w' := by
 obtain ⟨Al, cl, Ai, ci, ps, h1, h2, _⟩ := h
 generalize recs (nb s) deep = X at *
 have k2 := h1.cell 2
 clear h1 h2
 by_cases h0 : i < 0
 ·have d1 : decide (i < 0) = true := decide_eq_true h0
  go_enter Tryz.func66, Tryz.ntmps66
  go_wp2_with fail
  go_ret2
  exact ⟨rfl, rfl⟩
 ·have d1 : decide (i < 0) = false := decide_eq_false h0
  have hg : (X.length : Int) ≤ i := by omega
  have d2 : decide ((X.length : Int) ≤ i) = true := decide_eq_true hg
  go_enter Tryz.func66, Tryz.ntmps66
  go_wp2_with fail
  go_ret2
  exact ⟨rfl, rfl⟩
theorem zjf {w : World} {A : Option Addr} {ps : List (Option Addr)} (h : Lst w A (ps.map Value.pointer)) {i : Nat} {q : Option Addr} (hq : ps[i]? = some q) : ∃ g o, A = some ⟨g, o, none⟩ ∧ g < w.heap.size ∧ w.cell? ⟨g, o + i, none⟩ = some (.pointer q) := by
 have hi := (List.getElem?_eq_some_iff.1 hq).1
 obtain ⟨g, o, rfl, hg, hc⟩ := h.litS (by rw [List.length_map]; omega)
 exact ⟨g, o, rfl, hg, hc i _ (by rw [List.getElem?_map, hq]; rfl)⟩
theorem zvv (g : Nat) (s : ByteArray) (deep : Nat) (i : Nat) (w : World) (h : zc0 w g s deep) (hi : i < (recs (nb s) deep).length) :
  Calls Tryz.prog 66 #[.pointer (some ⟨g, 0, none⟩), .int .i64 (i : Nat)] w fun e w' => ((∃ gi, (recs (nb s) deep)[i].v = 1 ∧ e = .returned (.tuple #[.pointer (some ⟨gi, 0, none⟩), .int .i64 0]) ∧ zbo w gi (s.extract (recs (nb s) deep)[i].a (recs (nb s) deep)[i].b)) ∨ ((recs (nb s) deep)[i].v ≠ 1 ∧ e = .returned (.tuple #[.pointer none, .int .i64 8]))) ∧ w = w' := by
 obtain ⟨Al, cl, Ai, ci, ps, h1, h2, h3, h4, h5⟩ := h
 have hok := h5 i (recs (nb s) deep)[i] (by omega) (List.getElem?_eq_getElem hi)
 generalize (recs (nb s) deep)[i] = r at *
 generalize recs (nb s) deep = X at *
 have k2 := h1.cell 2
 have k3 := h1.cell 3
 have d1 : decide ((i : Int) < 0) = false := decide_eq_false (by omega)
 have d2 : decide ((X.length : Int) ≤ (i : Int)) = false := decide_eq_false (by omega)
 have d3 : decide (X.length ≤ i) = false := decide_eq_false (by omega)
 have hli : (i : Int) < (X.length : Int) := by omega
 have h0i : (0 : Int) ≤ (i : Int) := by omega
 by_cases hv : r.v = 1
 ·obtain ⟨gi, hq, hx⟩ := hok.1 hv
  obtain ⟨gp, op, rfl, hgp, kp⟩ := zjf h3 hq
  have HX := hid hx
  have HV := hid hv
  clear h1 h2 h5 hok hv hx
  go_enter Tryz.func66, Tryz.ntmps66
  go_wp2_with fail
  go_ret2
  exact ⟨.inl ⟨gi, HV.out, rfl, HX.out⟩, rfl⟩
 ·have hq := hok.2 hv
  obtain ⟨gp, op, rfl, hgp, kp⟩ := zjf h3 hq
  have HV := hid hv
  clear h1 h2 h5 hok hv
  go_enter Tryz.func66, Tryz.ntmps66
  go_wp2_with fail
  go_ret2
  exact ⟨.inr ⟨HV.out, rfl⟩, rfl⟩
theorem L.z4m (s : ByteArray) (r : RecN) (h : (sub_ (nb s) r.a r.b).length ≤ 4096) : (idxOf s r).size ≤ 140000 := by
 unfold idxOf
 split
 ·exact zt9 h
 ·show 0 ≤ _; omega
theorem L.zun (m : Nat) : ∀ es : List EntI, (∀ x ∈ es, x.s.size ≤ m) → (zad es).length ≤ es.length * (33 + m)
 | [], _ => by simp [zad]
 | x :: es, h => by
   have ih := zun m es (fun y hy => h y (List.mem_cons_of_mem _ hy))
   have hx := h x List.mem_cons_self
   rw [zen, List.length_append, zf6, List.length_cons, Nat.succ_mul]
   omega
theorem L.zqy (s : ByteArray) (deep : Nat) (hs : s.size ≤ 4096) : (zak (tblS s deep)).length ≤ 1000000000 := by
 have hf := ze5 (nb s) deep
 rw [zf] at hf
 have hl : (tblS s deep).es.length = (recs (nb s) deep).length := by unfold tblS; rw [List.length_map]
 have h1 := zun 140000 (tblS s deep).es (fun x hx => by
  obtain ⟨r, hr, rfl⟩ := List.mem_map.1 (show x ∈ (recs (nb s) deep).map (recE s) from hx)
  exact z4m s r (by have := (zhf hr hs).2.2.2.2.2.2; omega))
 rw [zdh]
 have h2 : (tblS s deep).es.length * (33 + 140000) ≤ 4096 * (33 + 140000) := Nat.mul_le_mul_right _ (by omega)
 omega
def L.tabS (s : ByteArray) (deep : Nat) : ByteArray := ⟨(tabL (tblS s deep)).toArray⟩
theorem zuo (g : Nat) (s : ByteArray) (deep : Nat) (w : World) (h : zc0 w g s deep) (hT : Tab w) (hs : s.size ≤ 4096) (h1 : 1 ≤ deep) (h2 : deep ≤ 4096) :
  Calls Tryz.prog 21 #[.pointer (some ⟨g, 0, none⟩)] w fun e w' => e = .returned (.string (tabS s deep)) ∧ Below w.heap.size w w' := by
 obtain ⟨i0, hi, iz0, iz1, iz2⟩ := info_parts Tryz.infoEnt
 have HWR := hid (fun A c W hl => zuj (tblS s deep) A c W hl (zqv s deep hs h1 h2) (zqy s deep hs))
 have HTS := hid (show tabS s deep = ⟨(tabL (tblS s deep)).toArray⟩ from rfl)
 obtain ⟨Al, cl, Ai, ci, ps, g1, g2, g3, g4, g5⟩ := h
 have hfew := ze5 (nb s) deep
 rw [zf] at hfew
 have HOK := hid (fun r (hr : r ∈ recs (nb s) deep) => zhf hr hs)
 have HES := hid (show (tblS s deep).es = (recs (nb s) deep).map (recE s) from rfl)
 have HDS := hid (show (tblS s deep).deep = (deep : Nat) ∧ (tblS s deep).size = (s.size : Nat) from ⟨rfl, rfl⟩)
 have HEN := hid (fun a b v p W => zjq a b v p W)
 have HNB := hid (fun a b => zgi s a b)
 have k0 := g1.cell 0
 have k1 := g1.cell 1
 have hss : (s.size : Int) ≤ 4096 := by omega
 have hgl := g1.lt
 have y0 : ∀ o : Obj, (w.alloc o).cell? ⟨g, 0, none⟩ = some (.string s) := fun o => (g1.alloc o).cell 0
 have y1 : ∀ o : Obj, (w.alloc o).cell? ⟨g, 1, none⟩ = some (.int .i64 (deep : Nat)) := fun o => (g1.alloc o).cell 1
 generalize recs (nb s) deep = X at *
 have G1 := hid g1
 go_enter Tryz.func21, Tryz.ntmps21
 go_wp2_with fail
 go_region
 have hX0 : za (w.alloc (.cells #[.int .i64 (deep : Nat), .int .i64 (s.size : Nat), .slice none 0 0] 107)).drew w.heap.size 107 #[.int .i64 (deep : Nat), .int .i64 (s.size : Nat), .slice none 0 0] := za.new w _ _
 have hB0 : Below w.heap.size w (w.alloc (.cells #[.int .i64 (deep : Nat), .int .i64 (s.size : Nat), .slice none 0 0] 107)).drew := ((Below.refl _ _).alloc (Nat.le_refl _) _).drew
 have hz0 : (w.alloc (.cells #[.int .i64 (deep : Nat), .int .i64 (s.size : Nat), .slice none 0 0] 107)).drew.heap.size = w.heap.size + 1 := by simp
 have k2 := (G1.out.below hB0).cell 2
 have k3 := (G1.out.below hB0).cell 3
 clear y0 y1 k0 k1
 generalize (w.alloc (.cells #[.int .i64 (deep : Nat), .int .i64 (s.size : Nat), .slice none 0 0] 107)).drew = W0 at *
 go_wp2_with fail
 go_loopw [24] (fun iv wr => ∃ (k : Nat) (A : Option Addr) (c : Nat), k ≤ X.length ∧ iv = .int .i64 (k : Nat) ∧ za wr w.heap.size 107 #[.int .i64 (deep : Nat), .int .i64 (s.size : Nat), .slice A k c] ∧ wr.ownsRow (w.heap.size + 1) 113 5 (.slice A k c) k (entC ((X.take k).map (recE s))) ∧ Below w.heap.size w wr) (fun iv _ => X.length - (intOf iv).toNat)
 case atStart => exact ⟨0, none, 0, by omega, rfl, hX0, World.ownsRow_nil _ _ _ _, hB0⟩
 case round =>
  obtain ⟨k, A, c, hk, rfl, hXT, hown, hB⟩ := hrel
  clear hX0 hB0 hz0 k2 k3
  have hz := hB.size
  have hTl := hXT.lt
  have hG := G1.out.below hB
  have k2 := hG.cell 2
  have k3 := hG.cell 3
  have t0 := hXT.cell 0
  have t1 := hXT.cell 1
  have t2 := hXT.cell 2
  have hlt5 := fun j hj => hown.lt j hj
  rcases Nat.lt_or_ge k X.length with hlt | hge
  ·have hki : (k : Int) < (X.length : Int) := by omega
   have hk0 : (0 : Int) ≤ (k : Int) := by omega
   have hkW := zg k (by omega)
   obtain ⟨gl, ol, rfl, q0, q1, q2, q3⟩ := zfg (g2.below hB) hlt
   have hr := HOK.out X[k] (List.getElem_mem hlt)
   have hXk : X[k]? = some X[k] := List.getElem?_eq_getElem hlt
   have hok := g5 k X[k] (by omega) hXk
   have HT := hid (show entC ((X.take (k + 1)).map (recE s)) = entC ((X.take k).map (recE s)) ++ entV (recE s X[k]) by rw [List.take_succ_eq_append_getElem hlt, List.map_append, List.map_cons, List.map_nil, zgj])
   generalize X[k] = r at *
   clear hXk
   obtain ⟨ra, rb, rv, rp⟩ := r
   dsimp only at q0 q1 q2 q3 hr hok
   obtain ⟨m1, m2, m3, m4, m5, m6, m7⟩ := hr
   have hRa := za.new wr 96 #[.int .i64 (ra : Nat), .int .i64 (rb : Nat), .int .i64 (rv : Nat), .int .i64 (rp : Nat)]
   have hBa : Below wr.heap.size wr (wr.alloc (.cells #[.int .i64 (ra : Nat), .int .i64 (rb : Nat), .int .i64 (rv : Nat), .int .i64 (rp : Nat)] 96)) := (Below.refl _ _).alloc (Nat.le_refl _) _
   have e0 := hRa.cell 0
   have e1 := hRa.cell 1
   have e2 := hRa.cell 2
   have e3 := hRa.cell 3
   go_wp2_with fail
   refine (HEN.out _ _ _ _ _).mono ?_
   rintro e w3 ⟨rfl, hB3⟩
   have hB03 := hBa.trans (hB3.mono hBa.size)
   clear hRa hBa e0 e1 e2 e3 hB3 q0 q1 q2 q3
   have hEX := za.new w3 113 #[.int .i64 (ra : Nat), .int .i64 (rb : Nat), .int .i64 (rv : Nat), .int .i64 (rp : Nat), .string ⟨#[]⟩]
   have hB04 := hB03.alloc hB03.size (.cells #[.int .i64 (ra : Nat), .int .i64 (rb : Nat), .int .i64 (rv : Nat), .int .i64 (rp : Nat), .string ⟨#[]⟩] 113)
   have hz4 : (w3.alloc (.cells #[.int .i64 (ra : Nat), .int .i64 (rb : Nat), .int .i64 (rv : Nat), .int .i64 (rp : Nat), .string ⟨#[]⟩] 113)).heap.size = w3.heap.size + 1 := by simp
   have hz3 := hB03.size
   have hG4 := hG.below hB04
   have hX4 := hXT.below hB04
   have x3 := hG4.cell 3
   have u2 := hX4.cell 2
   by_cases hv : rv = 1
   ·obtain ⟨gi, hq, hxi⟩ := hok.1 hv
    have HV := hid hv
    clear hv hok
    obtain ⟨gp, op, rfl, hgp, kp⟩ := zjf ((g3.below hB).below hB04) hq
    have hBB : Below w.heap.size w (w3.alloc (.cells #[.int .i64 (ra : Nat), .int .i64 (rb : Nat), .int .i64 (rv : Nat), .int .i64 (rp : Nat), .string ⟨#[]⟩] 113)) := hB.trans (hB04.mono hz)
    have hx4 := hxi.below (hBB)
    have hT4 := hT.below hBB
    have hw1 : (nb (s.extract ra rb)).length ≤ 4096 := by rw [HNB.out]; unfold sub_ at m7; omega
    have HBY := hid (fun W hW hTW => zjn gi (s.extract ra rb) W hW hTW (by omega) (by rw [zah]; have := zbg (nb (s.extract ra rb)); omega))
    have HIX := hid (show entV (recE s ⟨ra, rb, rv, rp⟩) = [.int .i64 (ra : Nat), .int .i64 (rb : Nat), .int .i64 (rv : Nat), .int .i64 (rp : Nat), .string (idxS (nb (s.extract ra rb)))] from by
     show [Value.int .i64 (ra : Nat), .int .i64 (rb : Nat), .int .i64 (rv : Nat), .int .i64 (rp : Nat), .string (idxOf s ⟨ra, rb, rv, rp⟩)] = _
     have : idxOf s ⟨ra, rb, rv, rp⟩ = idxS (nb (s.extract ra rb)) := by
      unfold idxOf
      rw [if_pos HV.out, HNB.out]; rfl
     rw [this])
    rw [HIX.out] at HT
    generalize idxS (nb (s.extract ra rb)) = I at *
    clear hw1 HIX
    go_wp2_with fail
    generalize (w3.alloc (.cells #[.int .i64 (ra : Nat), .int .i64 (rb : Nat), .int .i64 (rv : Nat), .int .i64 (rp : Nat), .string ⟨#[]⟩] 113)) = w4 at *
    refine (HBY.out w4 hx4 hT4).mono ?_
    rintro e w5 ⟨rfl, hB5⟩
    obtain ⟨E, hE⟩ : ∃ E, E = w3.heap.size := ⟨_, rfl⟩
    rw [← hE] at hEX hz4 hz3 ⊢
    clear hE
    have hEl := hEX.lt
    have hE5 := hEX.below hB5
    have hB05 := hB04.trans (hB5.mono hB04.size)
    have hBW := hBB.trans (hB5.mono hBB.size)
    have hX5 := hX4.below hB5
    have a0 := hE5.cell 0
    have a1 := hE5.cell 1
    have a2 := hE5.cell 2
    have a3 := hE5.cell 3
    have a4 := hE5.cell 4
    have af := hE5.frozen 4
    have neET : w.heap.size ≠ E := by omega
    have hX6 := hX5.far (p := ⟨E, 4, none⟩) neET (.string I)
    have u2 := hX6.cell 2
    have hz5 := hBW.size
    have hs6 : (w5.setCell ⟨E, 4, none⟩ (.string I)).heap.size = w5.heap.size := by simp
    have hl5 := hX5.lt
    have hown5 : w5.ownsRow (w.heap.size + 1) 113 5 (.slice A k c) k (entC ((X.take k).map (recE s))) := zac (S := fun _ => False) hown (Only.of_below hB05) (fun _ _ h => h)
    have hown6 : (w5.setCell ⟨E, 4, none⟩ (.string I)).ownsRow (w.heap.size + 1) 113 5 (.slice A k c) k (entC ((X.take k).map (recE s))) := zac (S := fun b => b = E) hown5 ((Only.refl (fun b => b = E) w5).setCell (p := ⟨E, 4, none⟩) (.inl rfl) (.string I)) (fun j hj e => by have := (hlt5 j hj).2; omega)
    clear hown5 HBY hxi hX4 hEX hE5 hx4 hT4 hBB hB04
    go_wp2_with (at_builtin
                 go_must (refine wpList_append_own_at _ rfl (.tmp 49) (.tmp 51) 105 rfl (w.heap.size + 1) 113 i0 _ 5 48 Tryz.underlying105 hi iz0 iz1 iz2 rfl (by decide) (.slice A k c) k _ rfl (hown6.alloc _) ⟨w5.heap.size, 0, none⟩ 1 1 [.int .i64 (ra : Nat), .int .i64 (rb : Nat), .int .i64 (rv : Nat), .int .i64 (rp : Nat), .string I] rfl rfl (zdi _ _ _ _ _ _ _ _ (by simp)) ?hone ?h63 ?hby ?hbs ?_)
                 go_must (case hone => simp [Value.oneCell'])
                 go_must (case h63 => simp only [maxLen]; omega)
                 go_must (case hby => omega)
                 go_must (case hbs => simp; omega)
                 intro v7 w7 hown7 hgr7 _ hat7
                 obtain ⟨A7, c7, rfl⟩ := zam hown7
                 have hX7 : za w7 w.heap.size 107 #[.int .i64 (deep : Nat), .int .i64 (s.size : Nat), .slice A k c] := (hX6.alloc _).kept (hgr7.block w.heap.size (by simp; omega) (fun e => by have := (hlt5 _ e.symm).1; omega))
                 have t7 := hX7.cell 2
                 have f7 := hX7.frozen 2)
    have hB7 : Below w.heap.size w w7 := ((hBW.setCell (p := ⟨E, 4, none⟩) (by simp; omega) (.string I)).alloc (by simp; omega) (.cells #[.int .i64 (ra : Nat), .int .i64 (rb : Nat), .int .i64 (rv : Nat), .int .i64 (rp : Nat), .string I] 113)).grown hgr7 (by simp; omega) (fun j hj => by have := (hlt5 j hj).1; omega)
    have hnb7 : (Value.slice A7 (k + 1) c7).ownBlock ≠ some w.heap.size := fun e => by have := (hown7.lt _ e).1; omega
    have hown8 := zac hown7 ((Only.refl (fun b => b = w.heap.size) w7).setCell (p := ⟨w.heap.size, 2, none⟩) (.inl rfl) (.slice A7 (k + 1) c7)) (fun j hj e => hnb7 (by rw [hj, e]))
    go_wp2_with fail
    go_roundw
    case rel => exact ⟨k + 1, A7, c7, by omega, by go_num, hX7.put 2 _, by rw [HT.out]; exact hown8, hB7.setCell (p := ⟨w.heap.size, 2, none⟩) (Nat.le_refl _) _⟩
    case measure => simp [intOf]; omega
   ·have hq := hok.2 hv
    have HV := hid hv
    clear hv hok
    obtain ⟨gp, op, rfl, hgp, kp⟩ := zjf ((g3.below hB).below hB04) hq
    have hBB : Below w.heap.size w (w3.alloc (.cells #[.int .i64 (ra : Nat), .int .i64 (rb : Nat), .int .i64 (rv : Nat), .int .i64 (rp : Nat), .string ⟨#[]⟩] 113)) := hB.trans (hB04.mono hz)
    have HIX := hid (show entV (recE s ⟨ra, rb, rv, rp⟩) = [.int .i64 (ra : Nat), .int .i64 (rb : Nat), .int .i64 (rv : Nat), .int .i64 (rp : Nat), .string ⟨#[]⟩] from by
     show [Value.int .i64 (ra : Nat), .int .i64 (rb : Nat), .int .i64 (rv : Nat), .int .i64 (rp : Nat), .string (idxOf s ⟨ra, rb, rv, rp⟩)] = _
     have : idxOf s ⟨ra, rb, rv, rp⟩ = ⟨#[]⟩ := by
      unfold idxOf
      rw [if_neg HV.out]
     rw [this])
    rw [HIX.out] at HT
    have hl4 := hX4.lt
    have hown4 : (w3.alloc (.cells #[.int .i64 (ra : Nat), .int .i64 (rb : Nat), .int .i64 (rv : Nat), .int .i64 (rp : Nat), .string ⟨#[]⟩] 113)).ownsRow (w.heap.size + 1) 113 5 (.slice A k c) k (entC ((X.take k).map (recE s))) := zac (S := fun _ => False) hown (Only.of_below hB04) (fun _ _ h => h)
    have hX6 := hX4
    rw [hz4] at hl4
    clear HIX hEX HV
    go_wp2_with (at_builtin
                 go_must (refine wpList_append_own_at _ rfl (.tmp 49) (.tmp 51) 105 rfl (w.heap.size + 1) 113 i0 _ 5 48 Tryz.underlying105 hi iz0 iz1 iz2 rfl (by decide) (.slice A k c) k _ rfl (hown4.alloc _) ⟨w3.heap.size + 1, 0, none⟩ 1 1 [.int .i64 (ra : Nat), .int .i64 (rb : Nat), .int .i64 (rv : Nat), .int .i64 (rp : Nat), .string ⟨#[]⟩] rfl rfl (zdi _ _ _ _ _ _ _ _ (by simp)) ?hone ?h63 ?hby ?hbs ?_)
                 go_must (case hone => simp [Value.oneCell'])
                 go_must (case h63 => simp only [maxLen]; omega)
                 go_must (case hby => omega)
                 go_must (case hbs => simp; omega)
                 intro v7 w7 hown7 hgr7 _ hat7
                 obtain ⟨A7, c7, rfl⟩ := zam hown7
                 have hX7 : za w7 w.heap.size 107 #[.int .i64 (deep : Nat), .int .i64 (s.size : Nat), .slice A k c] := (hX6.alloc _).kept (hgr7.block w.heap.size (by simp; omega) (fun e => by have := (hlt5 _ e.symm).1; omega))
                 have t7 := hX7.cell 2
                 have f7 := hX7.frozen 2)
    have hB7 : Below w.heap.size w w7 := (hBB.alloc (by simp; omega) (.cells #[.int .i64 (ra : Nat), .int .i64 (rb : Nat), .int .i64 (rv : Nat), .int .i64 (rp : Nat), .string ⟨#[]⟩] 113)).grown hgr7 (by simp; omega) (fun j hj => by have := (hlt5 j hj).1; omega)
    have hnb7 : (Value.slice A7 (k + 1) c7).ownBlock ≠ some w.heap.size := fun e => by have := (hown7.lt _ e).1; omega
    have hown8 := zac hown7 ((Only.refl (fun b => b = w.heap.size) w7).setCell (p := ⟨w.heap.size, 2, none⟩) (.inl rfl) (.slice A7 (k + 1) c7)) (fun j hj e => hnb7 (by rw [hj, e]))
    go_wp2_with fail
    go_roundw
    case rel => exact ⟨k + 1, A7, c7, by omega, by go_num, hX7.put 2 _, by rw [HT.out]; exact hown8, hB7.setCell (p := ⟨w.heap.size, 2, none⟩) (Nat.le_refl _) _⟩
    case measure => simp [intOf]; omega
  ·obtain rfl : k = X.length := by omega
   rw [List.take_length, ← HES.out] at hown
   have hl9 := zdq hown (by omega)
   have HW9 := hid (show Calls Tryz.prog 71 #[.agg #[.int .i64 (deep : Nat), .int .i64 (s.size : Nat), .slice A X.length c]] wr fun e w' => e = .returned (.tuple #[.string (tabS s deep), .int .i64 0]) ∧ Below wr.heap.size wr w' from by
    have := HWR.out A c wr hl9
    rw [HDS.out.1, HDS.out.2, ← HTS.out, show (tblS s deep).es.length = X.length from by rw [HES.out, List.length_map]] at this
    exact this)
   clear HWR HES HDS HOK HTS
   go_wp2_with fail
   refine (HW9.out).mono ?_
   rintro e w5 ⟨rfl, hB5⟩
   go_wp2_with fail
   go_ret
   exact ⟨rfl, hB.trans (hB5.mono hz)⟩
end Go.Proofs.YtgpbpgpolpakjaaGreatDoor
