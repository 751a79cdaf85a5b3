/- Walks: the scanner's steps: a bracket closed, blanks, a word, digits. -/
import Derived.Test.YtacllonekidocaaDoorScanB
set_option linter.unusedVariables false
set_option linter.unusedSimpArgs false
set_option maxRecDepth 100000
namespace Go.Proofs.YtacllonekidocaaDoor
open Go.RowKit Go.Shelf L

theorem quiet_moreS {P : Program} {f : FuncId} {args : Array Value} {w : World} {v : Value} {n : Nat} (h : Calls P f args (w.drewN n) fun e w' => e = .returned v ∧ ∃ m, w' = (w.drewN n).drewN m) :
    Calls P f args (w.drewN n) fun e w'' => e = .returned v ∧ ∃ m, w'' = w.drewN m := h.mono fun _ _ ⟨he, m, hw⟩ => ⟨he, n + m, by rw [hw, World.drewN_drewN]⟩

/-- The same blocks but for the scanner's own. -/
def Sco (g : Nat) (w w' : World) : Prop := Only (fun i => i = g) w w'
theorem Sco.refl (g : Nat) (w : World) : Sco g w w := Only.refl _ _
theorem Sco.trans {g : Nat} {a w w' : World} (h : Sco g a w) (k : Sco g w w') : Sco g a w' := Only.trans h k (fun _ _ h => h)
theorem Sco.drewN {g : Nat} {a w : World} (h : Sco g a w) (n : Nat) : Sco g a (w.drewN n) := Only.drewN h n
theorem Sco.set {g : Nat} {a w : World} (h : Sco g a w) (i : Nat) (u : Value) : Sco g a (w.setCell ⟨g, i, none⟩ u) := Only.setCell h (Or.inl rfl) u

theorem wrap_oneS (k : Nat) (h : k ≤ 4294967296) : IntKind.i64.wrap ((k : Int) + 1) = (k : Int) + 1 := by rw [IntKind.wrap_i64]; omega
theorem wrap_lessS (k : Nat) (h : k ≤ 4294967296) : IntKind.i64.wrap ((k : Int) - 1) = (k : Int) - 1 := by rw [IntKind.wrap_i64]; omega

set_option maxHeartbeats 1000000 in
theorem spop_any (g : Nat) (s : ByteArray) (k : Nat) (v : Value) (d m : Nat) (w : World) (hb : ScAt w g s k v (d + 1) m) (hk : k ≤ 65536) (hd : d ≤ 65536) :
    Calls Tryd.prog 56 #[.pointer (some ⟨g, 0, none⟩)] w fun e w' => e = .returned (.tuple #[]) ∧ ScAt w' g s (k + 1) v d m ∧ Sco g w w' := by
  have c1 := hb.c1
  have c3 := hb.c3
  have f1 := hb.fr 1
  have f3 := hb.fr 3
  have x1 := wrap_oneS k (by omega)
  have x2 := wrap_lessS (d + 1) (by omega)
  have hb1 : ScAt (w.setCell ⟨g, 3, none⟩ (.int .i64 (((d + 1 : Nat) : Int) - 1))) g s k v d m := by rw [show ((d + 1 : Nat) : Int) - 1 = (d : Nat) from by omega]; exact BlkIs.put hb 3 _
  have hb2 := hb1.at' (k + 1) ((k : Int) + 1) (by omega)
  have ho := ((Sco.refl g w).set 3 (.int .i64 (((d + 1 : Nat) : Int) - 1))).set 1 (.int .i64 ((k : Int) + 1))
  have c1' := hb1.c1
  have f1' := hb1.fr 1
  generalize hD : d + 1 = D at *
  go_enter Tryd.func56, Tryd.ntmps56
  go_wp2
  go_end0
  exact ⟨rfl, hb2, ho⟩

/-- The number that strings.IndexByte tells of the blanks. -/
def bix (c : Nat) : Int := Lib.indexByte [32, 9, 10, 13] c.toUInt8
theorem bix_blank (c : Nat) (h : c < 256) : decide (bix c ≥ 0) = L.blank c := by
  have : ∀ c : Fin 256, decide (bix c.1 ≥ 0) = L.blank c.1 := by decide +kernel
  exact this ⟨c, h⟩
theorem bix_any (c : Nat) (w : World) : Calls Tryd.prog 71 #[.string { data := #[32, 9, 10, 13] }, .int .u8 (c : Nat)] w fun e w' => e = .returned (.int .i64 (bix c)) ∧ w = w' :=
  (Tryd.strings_IndexByte { data := #[32, 9, 10, 13] } (c : Nat) w).mono fun e w' ⟨he, hw⟩ => ⟨by rw [he]; rfl, hw.symm⟩

/-- The blanks from k on end at k'. -/
def Blk (l : List Nat) (k k' : Nat) : Prop := k ≤ k' ∧ k' ≤ l.length ∧ (∀ i, k ≤ i → i < k' → L.blank (at_ l i) = true) ∧ (k' < l.length → L.blank (at_ l k') = false)

set_option maxHeartbeats 1000000 in
theorem sblanks_any (g : Nat) (s : ByteArray) (k : Nat) (v : Value) (d m : Nat) (w : World) (hb : ScAt w g s k v d m) (hk : k ≤ s.size) (hs : s.size ≤ 65536) :
    Calls Tryd.prog 50 #[.pointer (some ⟨g, 0, none⟩)] w fun e w' => e = .returned (.tuple #[]) ∧ ∃ k', ScAt w' g s k' v d m ∧ Sco g w w' ∧ Blk (nb s) k k' := by
  go_enter Tryd.func50, Tryd.ntmps50
  go_wp2
  go_loopw [] (fun wr => ∃ k', ScAt wr g s k' v d m ∧ Sco g w wr ∧ k ≤ k' ∧ k' ≤ s.size ∧ (∀ i, k ≤ i → i < k' → L.blank (at_ (nb s) i) = true)) (fun wr => s.size - posOf wr g)
  case atStart => exact ⟨k, hb, Sco.refl _ _, Nat.le_refl _, hk, fun i h1 h2 => by omega⟩
  case round =>
    obtain ⟨k', hb', ho, hk1, hk2, hbl⟩ := hrel
    have c0 := hb'.c0
    have c1 := hb'.c1
    have f1 := hb'.fr 1
    have x1 := wrap_oneS k' (by omega)
    rcases Nat.lt_or_ge k' s.size with h | h
    · have HA := hid (at_nb s k' h)
      have hi : (k' : Int) < (s.size : Int) := by omega
      have hlt := UInt8.toNat_lt s[k']
      have HB := hid (bix_blank (s[k']).toNat hlt)
      have HL := hid hbl
      have hn1 := hb'.at' (k' + 1) ((k' : Int) + 1) (by omega)
      have hn2 := ho.set 1 (.int .i64 ((k' : Int) + 1))
      have hp : ∀ W, ScAt W g s (k' + 1) v d m → posOf W g = k' + 1 := fun W h => h.pos
      clear hbl
      cases hbk : L.blank (s[k']).toNat
      · have hd : decide (bix (s[k']).toNat ≥ 0) = false := HB.out.trans hbk
        have HK := hid hbk
        clear hbk
        go_wp2
        go_quiet ((go_at_call 71; exact quiet_left (bix_any _ _)))
        go_wp2
        go_end0
        exact ⟨rfl, k', hb'.drewN _, ho.drewN _, hk1, by rw [nb_length]; exact hk2, HL.out, fun _ => by rw [HA.out]; exact HK.out⟩
      · have hd : decide (bix (s[k']).toNat ≥ 0) = true := HB.out.trans hbk
        have HK := hid hbk
        clear hbk
        go_wp2
        go_quiet ((go_at_call 71; exact quiet_left (bix_any _ _)))
        go_wp2
        go_roundw
        case rel => exact ⟨k' + 1, hn1.drewN _, hn2.drewN _, by omega, by omega, fun i h1 h2 => by
          rcases Nat.lt_or_ge i k' with h3 | h3
          · exact HL.out i h1 h3
          · obtain rfl : i = k' := by omega
            rw [HA.out]; exact HK.out⟩
        case measure => rw [hp _ (by exact hn1.drewN _), hb'.pos]; omega
    · have hi : decide ((k' : Int) < (s.size : Int)) = false := decide_eq_false (by omega)
      have hiN : ¬ (k' < s.size) := by omega
      go_wp2
      go_quiet ((go_at_call 71; exact quiet_left (bix_any _ _)))
      go_wp2
      go_end0
      exact ⟨rfl, k', hb'.drewN _, ho.drewN _, hk1, by rw [nb_length]; exact hk2, hbl, fun h3 => by rw [nb_length] at h3; omega⟩

end Go.Proofs.YtacllonekidocaaDoor
