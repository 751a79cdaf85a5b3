/- Memory: a slice of bytes of one's own that may have come of a string: appending to it a byte, reading it as a string. No program's function. -/
import Derived.Test.YtegoephanphnkaaMem
import Derived.Test.YtegoephanphnkaaScanB
import Derived.Lib.ConvBytes
import Derived.Laws.BytesArg
import Derived.Below
import Derived.ArgAppend
set_option linter.unusedVariables false
set_option linter.unusedSimpArgs false
set_option maxRecDepth 100000
namespace Go.Proofs.Ytegoephanphnkaa
open Go.RowKit L

/-- The slice v holds the bytes l; it lies in a block from base on, whose other cells are free. -/
def BRow (w : World) (base : Nat) (v : Value) (l : List Nat) : Prop :=
  ∃ g cap, v = .slice (some ⟨g, 0, none⟩) l.length cap ∧ base ≤ g ∧ g < w.heap.size ∧ l.length ≤ cap ∧ cap ≤ maxLen ∧
    (∀ j (h : j < l.length), w.cell? ⟨g, j, none⟩ = some (.int .u8 (l[j] : Nat))) ∧ ∀ j, j < cap → (w.cell? ⟨g, j, none⟩).isSome = true ∧ w.frozen? ⟨g, j, none⟩ = false

section
variable {w w' : World} {base : Nat} {v : Value} {l : List Nat}
theorem BRow.kept (h : BRow w base v l) (hs : w.heap.size ≤ w'.heap.size) (hk : ∀ g, g < w.heap.size → w'.heap[g]? = w.heap[g]?) : BRow w' base v l := by
  obtain ⟨g, cap, h1, h2, h3, h4, h5, h6, h7⟩ := h
  have hc : ∀ j, w'.cell? ⟨g, j, none⟩ = w.cell? ⟨g, j, none⟩ := fun j => World.cell?_of_block (hk g h3)
  have hf : ∀ j, w'.frozen? ⟨g, j, none⟩ = w.frozen? ⟨g, j, none⟩ := fun j => World.frozen?_of_block (hk g h3)
  exact ⟨g, cap, h1, h2, by omega, h4, h5, fun j hj => (hc j).trans (h6 j hj), fun j hj => by rw [hc, hf]; exact h7 j hj⟩
theorem BRow.below (h : BRow w base v l) (hb : Below w.heap.size w w') : BRow w' base v l := h.kept hb.size (fun g hg => hb.block g hg)
theorem BRow.alloc (h : BRow w base v l) (o : Obj) : BRow (w.alloc o) base v l := h.kept (by simp) (fun g hg => Below.heap_alloc w o g hg)
theorem BRow.drew (h : BRow w base v l) : BRow w.drew base v l := h.kept (Nat.le_refl _) (fun _ _ => rfl)
theorem BRow.drewN (h : BRow w base v l) (n : Nat) : BRow (w.drewN n) base v l := h.kept (Nat.le_refl _) (fun _ _ => rfl)
theorem BRow.of_own {n : Nat} {A : Option Addr} {c : Nat} (h : w.ownsRow base 5 1 v n (l.map fun b : Nat => Value.int .u8 (b : Nat))) (hn : 0 < n) : BRow w base v l := by
  have hl : l.length = n := by have := h.1; simpa using this
  rcases h.2 with ⟨_, e⟩ | ⟨g, cap, cur, rfl, hg, hh, h1, h2, h3, h4⟩
  · omega
  · have hcell : ∀ j, w.cell? ⟨g, j, none⟩ = cur[j]? := fun j => cell_of_row w g j cur 5 (0, 0) hh
    refine ⟨g, cap, by rw [hl], hg, (Array.getElem?_eq_some_iff.1 hh).1, by omega, h2, fun j hj => ?_, fun j hj => ⟨?_, ?_⟩⟩
    · rw [hcell j]
      have h5 := congrArg (fun x => x[j]?) h4
      simp only [List.getElem?_map, List.getElem?_take] at h5
      rw [if_pos (by omega), List.getElem?_eq_getElem hj] at h5
      simpa using h5
    · rw [hcell j, Array.getElem?_eq_getElem (by omega)]; rfl
    · simp [World.frozen?, hh]
end

section
variable {P : Program}
/-- []byte(s). -/
theorem run_bytes_of (w : World) (src dst : TypeId) (s : ByteArray) {u : TypeDesc} (hs : P.underlying src = some u) (hd : P.underlying dst = some (.slice 5)) (he : P.underlying 5 = some (.int .u8)) (base : Nat) (hb : base ≤ w.heap.size) (hsz : s.size ≤ maxLen) :
    ∃ v w', (convert src dst (.string s)).run P w = .ok v w' ∧ BRow w' base v (nb s) ∧ Below w.heap.size w w' := by
  refine ⟨_, _, Lib.run_convert_string_bytes w src dst 5 s hs hd he, ?_, ?_⟩
  · have hge := grownCap_ge w s.size 0 5
    have hcs : (Lib.bytesCells w 5 s).size = grownCap w s.size 0 5 := by
      unfold Lib.bytesCells
      rw [Array.size_append, Array.size_map, Array.size_replicate]
      show s.size + _ = _
      omega
    refine ⟨w.heap.size, grownCap w s.size 0 5, by rw [nb_length], hb, by rw [Lib.bytesWorld_size]; omega, by rw [nb_length]; exact hge, grownCap_le_maxLen w _ _ _ hsz, fun j hj => ?_, fun j hj => ⟨?_, ?_⟩⟩
    · rw [nb_length] at hj
      rw [Lib.bytesWorld_cell w _ s j hj]
      have e : (nb s)[j]? = (s.data.toList[j]?).map UInt8.toNat := by unfold nb; rw [List.getElem?_map]
      have hj3 : j < s.data.toList.length := hj
      rw [List.getElem?_eq_getElem (by rw [nb_length]; exact hj), List.getElem?_eq_getElem hj3] at e
      simp only [Option.map_some, Option.some.injEq] at e
      rw [e, List.getD_eq_getElem?_getD, List.getElem?_eq_getElem hj3]
      rfl
    · have hj2 : j < (Lib.bytesCells w 5 s).size := by omega
      rw [cell_of_row _ w.heap.size j _ _ _ (Lib.bytesWorld_at_new w 5 s), Array.getElem?_eq_getElem hj2]; rfl
    · simp only [World.frozen?, Lib.bytesWorld_at_new]
      simp
      intro hh
      omega
  · exact ⟨rfl, rfl, rfl, by rw [Lib.bytesWorld_size]; omega, fun k hk => Lib.bytesWorld_at_old w _ s k hk⟩

/-- string(t). -/
theorem run_string_of {w : World} {base : Nat} {v : Value} {l : List Nat} (h : BRow w base v l) (src dst : TypeId) (hs : P.underlying src = some (.slice 5)) (he : P.underlying 5 = some (.int .u8)) (hd : P.underlying dst = some .string) :
    (convert src dst v).run P w = .ok (.string ⟨(l.map Nat.toUInt8).toArray⟩) w := by
  obtain ⟨g, cap, rfl, _, _, _, _, h6, _⟩ := h
  have := run_convert_bytes_arg w src 5 hs he g 0 l.length cap (l.map (fun b : Nat => (b : Int))) (by simp) (fun i hi => by
    rw [Nat.zero_add, h6 i hi]
    simp [hi]) dst hd
  rw [this]
  congr 2
  apply ByteArray.ext
  apply Array.toList_inj.1
  rw [strOfNums_data, List.map_map]
  simp
theorem nb_bytes (l : List Nat) (h : ∀ x ∈ l, x < 256) : nb ⟨(l.map Nat.toUInt8).toArray⟩ = l := by
  show (l.map Nat.toUInt8).map UInt8.toNat = l
  rw [List.map_map]
  have : ∀ x ∈ l, (UInt8.toNat ∘ Nat.toUInt8) x = x := fun x hx => by
    show (Nat.toUInt8 x).toNat = x
    have := h x hx
    show x % 256 = x
    omega
  rw [List.map_congr_left this, List.map_id']

/-- One byte more. -/
theorem run_append_byte {w : World} {base : Nat} {v : Value} {l : List Nat} (h : BRow w base v l) (t ty : TypeId) (i : TypeInfo) (ht : P.underlying t = some (.slice 5)) (hi : P.info? 5 = some i) (hz : i.zero = some (.int .u8 0)) (hsize : i.size = 1) (hby : i.bytes = 1)
    (a : Addr) (cp : Nat) (b : Nat) (hc : w.cell? a = some (.int .u8 (b : Nat))) (hl : l.length < 1000000) (hb : base ≤ w.heap.size) :
    ∃ v' w', (Builtin.append_ #[t, t] ty #[v, .slice (some a) 1 cp]).run P w = .ok v' w' ∧ BRow w' base v' (l ++ [b]) ∧ Below base w w' := by
  obtain ⟨g, cap, rfl, h2, h3, h4, h5, h6, h7⟩ := h
  have hnews : ∀ j u, [Value.int .u8 (b : Nat)][j]? = some u → w.cell? (a.add j) = some u := fun j u hj => by
    rcases j with _ | j
    · simp only [List.getElem?_cons_zero, Option.some.injEq] at hj
      have e : a.add 0 = a := by unfold Addr.add; rfl
      rw [e, hc, hj]
    · simp at hj
  by_cases hr : l.length + 1 ≤ cap
  · have hrun := run_append_room_cells (P := P) w t ty 5 i ht hi g 0 l.length cap a 1 cp [.int .u8 (b : Nat)] (by rw [hsize]; rfl) hnews (by simp [Value.oneCell']) hr
      (fun j hj => by simp at hj; subst hj; rw [hsize]; have := (h7 l.length (by omega)).1; simpa using this)
      (fun j hj => by simp at hj; subst hj; rw [hsize]; have := (h7 l.length (by omega)).2; simpa using this)
    rw [hsize, Nat.mul_one, Nat.zero_add] at hrun
    have hB : Below base w (w.setCells g l.length [.int .u8 (b : Nat)]) := (Below.refl base w).setCell (p := ⟨g, l.length, none⟩) h2 _
    refine ⟨_, _, hrun, ⟨g, cap, by rw [List.length_append]; rfl, h2, by have := hB.size; omega, by rw [List.length_append]; exact hr, h5, fun j hj => ?_, fun j hj => ?_⟩, hB⟩
    · show (w.setCell ⟨g, l.length, none⟩ _).cell? _ = _
      rw [List.length_append] at hj
      by_cases e : j = l.length
      · subst e
        have h8 := (h7 l.length (by omega)).1
        obtain ⟨x, hx⟩ := Option.isSome_iff_exists.1 h8
        rw [List.getElem_append_right (Nat.le_refl _)]
        simp only [Nat.sub_self, List.getElem_cons_zero]
        exact World.cell?_setCell_same w _ _ hx
      · have hj' : j < l.length := by simp at hj; omega
        rw [List.getElem_append_left hj', World.cell?_setCell_other w _ _ _ (by intro e; injection e; omega)]
        exact h6 j hj'
    · show ((w.setCell ⟨g, l.length, none⟩ _).cell? _).isSome = true ∧ (w.setCell ⟨g, l.length, none⟩ _).frozen? _ = false
      rw [World.frozen?_setCell]
      refine ⟨?_, (h7 j hj).2⟩
      have := (h7 j hj).1
      obtain ⟨x, hx⟩ := Option.isSome_iff_exists.1 this
      by_cases e : j = l.length
      · subst e
        rw [World.cell?_setCell_same w _ _ hx]; rfl
      · rw [World.cell?_setCell_other w _ _ _ (by intro e; injection e; omega), hx]; rfl
  · have holds : ∀ j u, (l.map fun b : Nat => Value.int .u8 (b : Nat))[j]? = some u → w.cell? ((⟨g, 0, none⟩ : Addr).add j) = some u := fun j u hj => by
      rw [add_zero_]
      rw [List.getElem?_map] at hj
      obtain ⟨x, hx, rfl⟩ := Option.map_eq_some_iff.1 hj
      obtain ⟨hjl, rfl⟩ := List.getElem?_eq_some_iff.1 hx
      exact h6 j hjl
    obtain ⟨v', w', hrun, hown, hgr⟩ := run_append_arg_grows (P := P) w t ty 5 i _ 1 1 ht hi hz hsize hby rfl (by omega) ⟨g, 0, none⟩ l.length cap (l.map fun b : Nat => Value.int .u8 (b : Nat)) (by simp) holds a 1 cp [.int .u8 (b : Nat)] rfl hnews (by omega) (by simp only [maxLen]; omega) (by omega)
    have hB : Below base w w' := (Below.refl base w).grown hgr hb (fun k hk => by cases hk)
    refine ⟨v', w', hrun, ?_, hB⟩
    have hown' : w'.ownsRow w.heap.size 5 1 v' (l.length + 1) ((l ++ [b]).map fun b : Nat => Value.int .u8 (b : Nat)) := by rw [List.map_append]; exact hown
    obtain ⟨g', cap', k1, k2, k3⟩ := BRow.of_own (A := none) (c := 0) hown' (by omega)
    exact ⟨g', cap', k1, by omega, k3⟩

theorem wp_append_byte {w : World} {o : Oper} {a : Act} {K : Act → World → Prop} {Q : Exit → Act → World → Prop} (s x : Operand) (t : TypeId)
    (ho : o.op = .call { callee := .builtin .append, args := #[s, x], argTypes := #[t, t] }) (base : Nat) (i : TypeInfo) (ht : P.underlying t = some (.slice 5)) (hi : P.info? 5 = some i) (hz : i.zero = some (.int .u8 0)) (hsize : i.size = 1) (hby : i.bytes = 1)
    (v : Value) (l : List Nat) (hs : a.eval s = v) (h : BRow w base v l) (ad : Addr) (cp : Nat) (hx : a.eval x = .slice (some ad) 1 cp) (b : Nat) (hc : w.cell? ad = some (.int .u8 (b : Nat))) (hl : l.length < 1000000) (hb : base ≤ w.heap.size)
    (hk : ∀ v' w', BRow w' base v' (l ++ [b]) → Below base w w' → K (a.put o.dst v') w') : o.wp P a w K Q := by
  obtain ⟨v', w', hrun, h2, h3⟩ := run_append_byte (P := P) h t o.type i ht hi hz hsize hby ad cp b hc hl hb
  unfold Oper.wp execOp
  simp only [ho, resolve, invoke, builtin, Sem.run_bind, Sem.run_pure, Result.andThen_ok, List.map_toArray, List.map_cons, List.map_nil, hs, hx, hrun]
  exact hk v' w' h2 h3
theorem wpList_append_byte {w : World} {ops : Array Oper} {rest : List Oper} {o : Oper} {a : Act} {Q : Exit → Act → World → Prop} (hgd : o.guard = none) (s x : Operand) (t : TypeId)
    (ho : o.op = .call { callee := .builtin .append, args := #[s, x], argTypes := #[t, t] }) (base : Nat) (i : TypeInfo) (ht : P.underlying t = some (.slice 5)) (hi : P.info? 5 = some i) (hz : i.zero = some (.int .u8 0)) (hsize : i.size = 1) (hby : i.bytes = 1)
    (v : Value) (l : List Nat) (hs : a.eval s = v) (h : BRow w base v l) (ad : Addr) (cp : Nat) (hx : a.eval x = .slice (some ad) 1 cp) (b : Nat) (hc : w.cell? ad = some (.int .u8 (b : Nat))) (hl : l.length < 1000000) (hb : base ≤ w.heap.size)
    (hk : ∀ v' w', BRow w' base v' (l ++ [b]) → Below base w w' → wpList P ops Q rest (a.put o.dst v') w') : wpList P ops Q (o :: rest) a w :=
  wpList_plain hgd fun _ hK => wp_append_byte s x t ho base i ht hi hz hsize hby v l hs h ad cp hx b hc hl hb fun v' w' h2 h3 => hK _ _ (hk v' w' h2 h3)
theorem step_append_byte {w : World} {ops : Array Oper} {o : Oper} {a : Act} {K : Act → World → Prop} {Q : Exit → Act → World → Prop} {E : Prop} (hgd : o.guard = none) (s x : Operand) (t : TypeId)
    (ho : o.op = .call { callee := .builtin .append, args := #[s, x], argTypes := #[t, t] }) (base : Nat) (i : TypeInfo) (ht : P.underlying t = some (.slice 5)) (hi : P.info? 5 = some i) (hz : i.zero = some (.int .u8 0)) (hsize : i.size = 1) (hby : i.bytes = 1)
    (v : Value) (l : List Nat) (hs : a.eval s = v) (h : BRow w base v l) (ad : Addr) (cp : Nat) (hx : a.eval x = .slice (some ad) 1 cp) (b : Nat) (hc : w.cell? ad = some (.int .u8 (b : Nat))) (hl : l.length < 1000000) (hb : base ≤ w.heap.size)
    (hk : ∀ v' w', BRow w' base v' (l ++ [b]) → Below base w w' → K (a.put o.dst v') w') : if Region.wanted o (yielded ops a.tmps) = true then Oper.wp P o a w K Q else E := by
  have hw : Region.wanted o (yielded ops a.tmps) = true := by simp [Region.wanted, hgd]
  rw [if_pos hw]
  exact wp_append_byte s x t ho base i ht hi hz hsize hby v l hs h ad cp hx b hc hl hb hk
end

end Go.Proofs.Ytegoephanphnkaa
