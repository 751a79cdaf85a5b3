/- Walks: awake of layer 2; Put and the reference's Put at whatever arguments; memory beside a builder. -/
import Derived.Test.YtlpnbkfcbamnbaaDoorBitsD
set_option linter.unusedVariables false
set_option linter.unusedSimpArgs false
set_option maxRecDepth 100000
namespace Go.Proofs.YtlpnbkfcbamnbaaDoor
open Go.RowKit L

/-- A list that is not empty lies at a plain address. -/
theorem Lst.lit {w : World} {A : Option Addr} {xs : List Value} (h : Lst w A xs) (hx : 0 < xs.length) : ∃ b off, A = some ⟨b, off, none⟩ ∧ b < w.heap.size ∧ ∀ j u, xs[j]? = some u → w.cell? ⟨b, off + j, none⟩ = some u := by
  obtain ⟨ad, rfl, hc⟩ := h 0 _ (List.getElem?_eq_getElem hx)
  obtain ⟨b, off, spot⟩ := ad
  have hspot : spot = none := by simpa [Addr.add] using World.cell?_spot hc
  subst hspot
  have hb := World.block_lt_of_cell? w _ hc
  rw [block_of_add] at hb
  exact ⟨b, off, rfl, hb, fun j u hu => by have := h.addr hu; rwa [Addr.add_lit] at this⟩

theorem Only.of_drew {S : Nat → Prop} {w w' : World} (h : Only S w.drew w') : Only S w w' := ⟨h.os, h.tape, h.output, h.size, h.block⟩
theorem Only.of_drewN {S : Nat → Prop} {w w' : World} {n : Nat} (h : Only S (w.drewN n) w') : Only S w w' := ⟨h.os, h.tape, h.output, h.size, h.block⟩
theorem below_of_drew {B : Nat} {w w' : World} (h : Below B w.drew w') : Below B w w' := ⟨h.os, h.tape, h.output, h.size, h.block⟩
theorem below_of_drewN {B : Nat} {w w' : World} {n : Nat} (h : Below B (w.drewN n) w') : Below B w w' := ⟨h.os, h.tape, h.output, h.size, h.block⟩

/-- A Put that can't be. -/
def badOp (o : Nat × Int) : Prop := o.2 < 0 ∨ 64 < o.2 ∨ o.2 < need o.1
instance (o : Nat × Int) : Decidable (badOp o) := inferInstanceAs (Decidable (_ ∨ _ ∨ _))
def stepPut (bs : List Bool) (o : Nat × Int) : List Bool := if badOp o then bs else bs ++ bitsOf o.1 o.2.toNat
def putCode (o : Nat × Int) : Int := if badOp o then 1 else 0
theorem stepPut_length (bs : List Bool) (o : Nat × Int) : (stepPut bs o).length ≤ bs.length + 64 := by
  unfold stepPut
  split
  · omega
  · rename_i h
    unfold badOp at h
    rw [List.length_append, bitsOf_length]; omega

theorem put_any (o : Nat × Int) (base g : Nat) (v : Value) (bs : List Bool) (w : World) (hx : o.1 < 18446744073709551616) (hl : bs.length + 64 ≤ 4294967296) (hb : BuilderAt w base g v bs) (hbase : base ≤ w.heap.size) :
    Calls Tryd.prog 77 #[.pointer (some ⟨g, 0, none⟩), .int .u64 (o.1 : Nat), .int .i64 o.2] w fun e w' => e = .returned (.int .i64 (putCode o)) ∧ PutDone w w' base g v (stepPut bs o) := by
  obtain ⟨x, n⟩ := o
  by_cases h : badOp (x, n)
  · rw [putCode, stepPut, if_pos h, if_pos h]
    refine (put_arg x n g w hx h).mono ?_
    rintro e w' ⟨rfl, rfl⟩
    exact ⟨rfl, v, hb, .inl rfl, Only.refl _ _⟩
  · rw [putCode, stepPut, if_neg h, if_neg h]
    unfold badOp at h
    simp only at h hx
    obtain ⟨k, rfl⟩ := Int.eq_ofNat_of_zero_le (show 0 ≤ n by omega)
    exact put_ok x k base g v bs w ((need_le_iff x k hx).1 (by omega)) (by omega) (by omega) hb hbase

/-- A list that lies apart from a builder's blocks. -/
def LstFar (w : World) (g : Nat) (v : Value) (A : Option Addr) (xs : List Value) : Prop := Lst w A xs ∧ ∀ ad, A = some ad → xs ≠ [] → ad.block ≠ g ∧ v.ownBlock ≠ some ad.block
theorem lst_lt {w : World} {ad : Addr} {xs : List Value} (h : Lst w (some ad) xs) (hx : xs ≠ []) : ad.block < w.heap.size := by
  cases xs with
  | nil => exact absurd rfl hx
  | cons x l =>
    have := World.block_lt_of_cell? w _ (h.addr (i := 0) (u := x) rfl)
    rwa [block_of_add] at this
theorem LstFar.put {w w' : World} {base g : Nat} {v v' : Value} {bs' : List Bool} {A : Option Addr} {xs : List Value} (h : LstFar w g v A xs) (hat : v'.ownBlock = v.ownBlock ∨ ∃ k, v'.ownBlock = some k ∧ w.heap.size ≤ k) (ho : Only (fun i => i = g ∨ v.ownBlock = some i) w w') :
    LstFar w' g v' A xs := by
  by_cases hx : xs = []
  · subst hx; exact ⟨Lst.nil_ _ _, fun _ _ h => absurd rfl h⟩
  · refine ⟨h.1.only ho (fun ad e hs => ?_), fun ad e _ => ?_⟩
    · have := h.2 ad e hx
      rcases hs with hs | hs
      · exact this.1 hs
      · exact this.2 hs
    · have := h.2 ad e hx
      refine ⟨this.1, ?_⟩
      rcases hat with h1 | ⟨k, h1, h2⟩
      · rw [h1]; exact this.2
      · rw [h1]
        intro h3
        subst e
        have := lst_lt h.1 hx
        injection h3 with h3
        omega
theorem LstFar.below {w w' : World} {g : Nat} {v : Value} {A : Option Addr} {xs : List Value} (h : LstFar w g v A xs) (hb : Below w.heap.size w w') : LstFar w' g v A xs := ⟨h.1.below hb, h.2⟩
theorem LstFar.new {w w' : World} {base g : Nat} {v : Value} {bs : List Bool} {A : Option Addr} {xs : List Value} (h : Lst w' A xs) (hA : ∀ ad, A = some ad → w.heap.size ≤ ad.block) (hb : BuilderAt w base g v bs) : LstFar w' g v A xs :=
  ⟨h, fun ad e _ => by
    have h1 := hA ad e
    have h2 := hb.blk.lt
    refine ⟨by omega, fun h3 => ?_⟩
    have := (hb.own.lt _ h3).2
    omega⟩
theorem LstFar.lst {w : World} {g : Nat} {v : Value} {A : Option Addr} {xs : List Value} (h : LstFar w g v A xs) : Lst w A xs := h.1

/-- A row apart from a builder's blocks. -/
def RowFar (w : World) (g : Nat) (v : Value) (gx : Nat) (Ax : Option Addr) (cx : Nat) (ts : List Bool) : Prop := RowAt w gx Ax cx ts ∧ LstFar w g v Ax (u64s (words ts))
theorem RowFar.row {w : World} {g : Nat} {v : Value} {gx : Nat} {Ax : Option Addr} {cx : Nat} {ts : List Bool} (h : RowFar w g v gx Ax cx ts) : RowAt w gx Ax cx ts := h.1
theorem RowFar.put {w w' : World} {base g : Nat} {v v' : Value} {bs : List Bool} {gx : Nat} {Ax : Option Addr} {cx : Nat} {ts : List Bool} (h : RowFar w g v gx Ax cx ts) (hb : BuilderAt w base g v bs)
    (hat : v'.ownBlock = v.ownBlock ∨ ∃ k, v'.ownBlock = some k ∧ w.heap.size ≤ k) (ho : Only (fun i => i = g ∨ v.ownBlock = some i) w w') : RowFar w' g v' gx Ax cx ts := by
  have hl := h.2.put (base := base) (bs' := bs) hat ho
  refine ⟨RowAt.mk (h.1.blk.only ho ?_) hl.1 h.1.small, hl⟩
  rintro (e | e)
  · exact h.1.blk.ne_ hb.blk (by decide) e
  · exact h.1.blk.ne_own hb.own (by decide) e
theorem RowFar.below {w w' : World} {g : Nat} {v : Value} {gx : Nat} {Ax : Option Addr} {cx : Nat} {ts : List Bool} (h : RowFar w g v gx Ax cx ts) (hb : Below w.heap.size w w') : RowFar w' g v gx Ax cx ts := ⟨h.1.below hb, h.2.below hb⟩
theorem RowFar.new {w w' : World} {base g : Nat} {v : Value} {bs : List Bool} {gx : Nat} {Ax : Option Addr} {cx : Nat} {ts : List Bool} (h : RowAt w' gx Ax cx ts) (hA : ∀ ad, Ax = some ad → w.heap.size ≤ ad.block) (hb : BuilderAt w base g v bs) : RowFar w' g v gx Ax cx ts :=
  ⟨h, LstFar.new h.lst hA hb⟩

theorem BuilderAt.below {w w' : World} {base g : Nat} {v : Value} {bs : List Bool} (h : BuilderAt w base g v bs) (hb : Below w.heap.size w w') : BuilderAt w' base g v bs :=
  BuilderAt.mk (h.blk.below hb) (own_only h.own (Only.of_below (S := fun _ => False) hb) (fun _ _ => id))

/-- A builder that has just been made. -/
theorem BuilderAt.new_at (w : World) (base k : Nat) (hk : k = w.heap.size) : BuilderAt (w.alloc (.cells #[.slice none 0 0, .int .i64 0] 70)) base k (.slice none 0 0) [] := by
  subst hk
  exact BuilderAt.mk (BlkIs.new _ _ _) (World.ownsRow_nil _ _ _ _)

end Go.Proofs.YtlpnbkfcbamnbaaDoor
