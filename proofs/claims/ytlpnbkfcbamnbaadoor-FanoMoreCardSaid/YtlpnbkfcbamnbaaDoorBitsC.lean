/- Walks: a row of bits: how it is made, its length, its bits; Is. -/
import Derived.Test.YtlpnbkfcbamnbaaDoorBitsB
set_option linter.unusedVariables false
set_option linter.unusedSimpArgs false
set_option maxRecDepth 100000
namespace Go.Proofs.YtlpnbkfcbamnbaaDoor
open Go.RowKit L

def u64s (l : List Nat) : List Value := l.map (fun x => Value.int .u64 (x : Nat))
def bools (l : List Bool) : List Value := l.map Value.bool
theorem bools_length (l : List Bool) : (bools l).length = l.length := by simp [bools]
theorem bools_get (l : List Bool) {i : Nat} (h : i < l.length) : (bools l)[i]? = some (.bool (bitAt l i)) := by
  rw [bools, List.getElem?_map, bitAt_get l i h]; rfl

/-- A row of the bits bs at block g; its words lie from A on. -/
def RowAt (w : World) (g : Nat) (A : Option Addr) (c : Nat) (bs : List Bool) : Prop :=
  BlkIs w g 109 #[.slice A (nwords bs.length) c, .int .i64 (bs.length : Nat)] ∧ Lst w A (u64s (words bs)) ∧ bs.length ≤ 4294967296
section
variable {w : World} {g : Nat} {A : Option Addr} {c : Nat} {bs : List Bool}
theorem RowAt.blk (h : RowAt w g A c bs) : BlkIs w g 109 #[.slice A (nwords bs.length) c, .int .i64 (bs.length : Nat)] := h.1
theorem RowAt.lst (h : RowAt w g A c bs) : Lst w A (u64s (words bs)) := h.2.1
theorem RowAt.small (h : RowAt w g A c bs) : bs.length ≤ 4294967296 := h.2.2
theorem RowAt.mk (h1 : BlkIs w g 109 #[.slice A (nwords bs.length) c, .int .i64 (bs.length : Nat)]) (h2 : Lst w A (u64s (words bs))) (h3 : bs.length ≤ 4294967296) : RowAt w g A c bs := ⟨h1, h2, h3⟩
end
theorem RowAt.kept {w w' : World} {g : Nat} {A : Option Addr} {c : Nat} {bs : List Bool} (h : RowAt w g A c bs) (hg : w'.heap[g]? = w.heap[g]?) (hk : ∀ ad, A = some ad → ad.block < w.heap.size → w'.heap[ad.block]? = w.heap[ad.block]?) : RowAt w' g A c bs :=
  RowAt.mk (h.blk.kept hg) (h.lst.kept hk) h.small
theorem RowAt.below {w w' : World} {g : Nat} {A : Option Addr} {c : Nat} {bs : List Bool} (h : RowAt w g A c bs) (hb : Below w.heap.size w w') : RowAt w' g A c bs :=
  RowAt.mk (h.blk.below hb) (h.lst.below hb) h.small
theorem RowAt.only {w w' : World} {S : Nat → Prop} {g : Nat} {A : Option Addr} {c : Nat} {bs : List Bool} (h : RowAt w g A c bs) (hb : Only S w w') (h1 : ¬ S g) (h2 : ∀ ad, A = some ad → ¬ S ad.block) : RowAt w' g A c bs :=
  RowAt.mk (h.blk.only hb h1) (h.lst.only hb h2) h.small
theorem RowAt.cells {w : World} {g : Nat} {A : Option Addr} {c : Nat} {bs : List Bool} (h : RowAt w g A c bs) : w.cell? ⟨g, 0, none⟩ = some (.slice A (nwords bs.length) c) ∧ w.cell? ⟨g, 1, none⟩ = some (.int .i64 (bs.length : Nat)) :=
  ⟨by rw [h.blk.cell 0]; rfl, by rw [h.blk.cell 1]; rfl⟩

/-- A new row of these bits is handed back. -/
def NewRow (w : World) (bs : List Bool) (e : Ending) (w' : World) : Prop :=
  ∃ g A c, e = .returned (.pointer (some ⟨g, 0, none⟩)) ∧ RowAt w' g A c bs ∧ w.heap.size ≤ g ∧ (∀ ad, A = some ad → w.heap.size ≤ ad.block) ∧ Below w.heap.size w w'

/-- A new slice of these cells is handed back. -/
def NewSlice (w : World) (n : Nat) (xs : List Value) (e : Ending) (w' : World) : Prop :=
  ∃ A c, e = .returned (.slice A n c) ∧ Lst w' A xs ∧ (∀ ad, A = some ad → w.heap.size ≤ ad.block) ∧ Below w.heap.size w w' ∧ n ≤ c

theorem lst_none {w : World} {xs : List Value} (h : Lst w none xs) : xs = [] := by
  cases xs with
  | nil => rfl
  | cons x l => obtain ⟨_, h, _⟩ := h 0 x rfl; cases h

theorem u64s_one (l : List Nat) : ∀ u ∈ u64s l, u.oneCell' = true := by
  intro u hu
  obtain ⟨x, _, rfl⟩ := List.mem_map.1 hu
  rfl
theorem bools_one (l : List Bool) : ∀ u ∈ bools l, u.oneCell' = true := by
  intro u hu
  obtain ⟨x, _, rfl⟩ := List.mem_map.1 hu
  rfl

set_option maxHeartbeats 400000 in
theorem clone_any (A : Option Addr) (n c : Nat) (xs : List Value) (w : World) (hr : Lst w A xs) (hl : xs.length = n) (h1 : ∀ u ∈ xs, u.oneCell' = true) (hn : n ≤ 67108864) :
    Calls Tryd.prog 103 #[.slice A n c] w (NewSlice w n xs) := by
  have he := fun (W : World) => Lib.run_eql_slice_nil (P := Tryd.prog) W 68 91 A n c 0 0 Tryd.underlying68
  obtain ⟨i0, hi0, hz0, hz1, hz2⟩ := info_parts Tryd.infoU64
  rcases A with _ | ad
  · have hx := lst_none hr
    subst hx
    simp only [List.length_nil] at hl
    subst hl
    go_enter Tryd.func103, Tryd.ntmps103
    go_wp2
    go_ret
    exact ⟨none, 0, rfl, Lst.nil_ _ _, (fun ad h => by cases h), Below.refl _ _, Nat.le_refl _⟩
  · go_enter Tryd.func103, Tryd.ntmps103
    go_wp2_with (at_builtin
                 refine wpList_append_more _ rfl (.tmp 5) (.tmp 6) _ rfl w.heap.size 91 i0 _ 8 Tryd.underlying68 hi0 hz0 hz1 hz2 rfl (.slice (some ⟨w.heap.size, 0, none⟩) 0 0) 0 [] rfl (own_empty w _ _ (Nat.le_refl _)) (some ad) n c xs rfl (hr.alloc _) hl h1 ?h63 ?hby ?hbs _ rfl ?_
                 case h63 => simp only [maxLen]; omega
                 case hby => omega
                 case hbs => simp
                 intro A1 c1 w1 hown1 hgr1 hat1)
    go_ret
    refine ⟨A1, c1, ?_, own_lst hown1, own_base hown1, ((Below.refl _ _).alloc (Nat.le_refl _) _).grown hgr1 (by simp) (fun k hk => ?_), ?_⟩
    · simp
    · have hk' : w.heap.size = k := by simpa [Value.ownBlock] using hk
      omega
    · have := own_cap hown1; omega

set_option maxHeartbeats 400000 in
theorem blen_any (g : Nat) (n : Int) (w : World) (hc : w.cell? ⟨g, 1, none⟩ = some (.int .i64 n)) :
    Calls Tryd.prog 60 #[.pointer (some ⟨g, 0, none⟩)] w fun e w' => e = .returned (.int .i64 n) ∧ w = w' := by
  go_enter Tryd.func60, Tryd.ntmps60
  go_wp2
  go_ret
  exact ⟨rfl, rfl⟩

set_option maxHeartbeats 400000 in
theorem rlen_any (g : Nat) (n : Int) (w : World) (hc : w.cell? ⟨g, 1, none⟩ = some (.int .i64 n)) :
    Calls Tryd.prog 83 #[.pointer (some ⟨g, 0, none⟩)] w fun e w' => e = .returned (.int .i64 n) ∧ w = w' := by
  go_enter Tryd.func83, Tryd.ntmps83
  go_wp2
  go_ret
  exact ⟨rfl, rfl⟩

/-- A row's bit, at any place. -/
def rowBit (bs : List Bool) (i : Int) : Bool := decide (0 ≤ i) && bitAt bs i.toNat

set_option maxHeartbeats 400000 in
theorem get_any (g : Nat) (A : Option Addr) (c : Nat) (bs : List Bool) (i : Int) (w : World) (hr : RowAt w g A c bs) :
    Calls Tryd.prog 115 #[.pointer (some ⟨g, 0, none⟩), .int .i64 i] w fun e w' => e = .returned (.bool (rowBit bs i)) ∧ w = w' := by
  obtain ⟨c0, c1⟩ := hr.cells
  rcases Int.lt_or_le i 0 with h | h
  · have e : rowBit bs i = false := by unfold rowBit; simp; omega
    rw [e]
    go_enter Tryd.func115, Tryd.ntmps115
    go_wp2
    go_ret
    exact ⟨rfl, rfl⟩
  · obtain ⟨k, rfl⟩ := Int.eq_ofNat_of_zero_le h
    rcases Nat.lt_or_ge k bs.length with h2 | h2
    · have hk : k / 64 < nwords bs.length := by unfold nwords; omega
      obtain ⟨ad, rfl, hc⟩ := hr.lst (k / 64) (.int .u64 (wordAt bs (k / 64) : Nat)) (by rw [u64s, List.getElem?_map, words_get _ hk]; rfl)
      have hsm := hr.small
      have hb := bit_and1 (wordAt bs (k / 64)) ((k % 64 : Nat) : Int) (wordAt_lt _ _) (by omega) (by omega)
      have hv : ibit (wordAt bs (k / 64)) ((k % 64 : Nat) : Int) = rowBit bs k := by
        rw [ibit_nat _ _ (by omega), wordAt_testBit]
        unfold rowBit
        have h3 : 64 * (k / 64) + k % 64 = k := by omega
        have h4 : k % 64 < 64 := by omega
        simp [h3, h4]
      rw [hv] at hb
      have HB := hid hb
      have hk' : (k : Int) / 64 < (nwords bs.length : Nat) := by omega
      clear hv hb hr h
      go_enter Tryd.func115, Tryd.ntmps115
      go_wp2
      go_ret
      have hB := HB.out
      rw [show ((k % 64 : Nat) : Int).toNat = k % 64 from by omega] at hB
      exact ⟨ret_bool' hB, rfl⟩
    · have e : rowBit bs k = false := by unfold rowBit; simp [bitAt_ge bs k h2]
      rw [e]
      go_enter Tryd.func115, Tryd.ntmps115
      go_wp2
      go_ret
      exact ⟨rfl, rfl⟩

/-- A builder's row: its bits as they are now; they stay. -/
theorem row_any (base g : Nat) (v : Value) (bs : List Bool) (w : World) (hb : BuilderAt w base g v bs) (hs : bs.length ≤ 4294967296) :
    Calls Tryd.prog 62 #[.pointer (some ⟨g, 0, none⟩)] w (NewRow w bs) := by
  obtain ⟨A, c, rfl⟩ := own_slice hb.own
  have c0 := hb.blk.cell 0
  have c1 := hb.blk.cell 1
  simp only [List.getElem?_toArray, List.getElem?_cons_zero, List.getElem?_cons_succ] at c0 c1
  have hg := hb.blk.lt
  have hlst := own_lst hb.own
  have hnw : nwords bs.length ≤ 67108864 := by unfold nwords; omega
  go_enter Tryd.func62, Tryd.ntmps62
  go_wp2
  go_region_held3 (fun w' => w'.cell? ⟨g, 0, none⟩ = some (.slice A (nwords bs.length) c) ∧ w'.cell? ⟨g, 1, none⟩ = some (.int .i64 (bs.length : Nat))) (first | go_keep | exact ⟨k0, k1⟩)
    (first | (go_at_call 103; refine (clone_any A _ c (u64s (words bs)) _ (by exact hlst) (by simp [u64s, words_length]) (u64s_one _) hnw).mono ?_; rintro e w1 ⟨A1, c1', rfl, hl1, hn1, hb1, _⟩; have k0 := (hb1.cell (p := ⟨g, 0, none⟩) hg).trans c0; have k1 := (hb1.cell (p := ⟨g, 1, none⟩) hg).trans c1))
  go_wp2
  go_ret
  have hz := hb1.size
  refine ⟨w1.heap.size, A1, c1', rfl, RowAt.mk (BlkIs.new _ _ _) (hl1.alloc _) hs, hz, hn1, ?_⟩
  exact (show Below w.heap.size w w1 from ⟨hb1.os, hb1.tape, hb1.output, hb1.size, hb1.block⟩).alloc hz _

end Go.Proofs.YtlpnbkfcbamnbaaDoor
