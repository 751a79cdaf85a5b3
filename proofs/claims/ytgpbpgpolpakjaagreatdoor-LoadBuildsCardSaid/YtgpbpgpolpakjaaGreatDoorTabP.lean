/- The texts TabA, TabC, TabD, in one. -/
import Derived.Test.YtgpbpgpolpakjaaGreatDoorMaths
import Derived.Test.YtgpbpgpolpakjaaGreatDoorBitsP
import Derived.Test.YtgpbpgpolpakjaaGreatDoorBitsQ
import Derived.Laws.BitsAllLaws
/- Plain: the bytes of a table of a file: its sum, its head, and which bytes are a table's. No program in sight. -/

set_option linter.unusedVariables false
set_option linter.unusedSimpArgs false
namespace Go.Proofs.YtgpbpgpolpakjaaGreatDoor
namespace L

/-- An entry: where the record is, its verdict, what is told with it, and its index's bytes. -/
structure EntI where
  a : Int
  b : Int
  v : Int
  p : Int
  s : ByteArray
/-- A table: how deep records may nest, the file's size, the entries. -/
structure TabN where
  deep : Int
  size : Int
  es : List EntI

/-- The sum of bytes. -/
def sumStep (h : Nat) (b : UInt8) : Nat := (h ^^^ b.toNat) * 1099511628211 % 18446744073709551616
def sumL (l : List UInt8) : Nat := l.foldl sumStep 14695981039346656037
theorem sumL_lt (l : List UInt8) : sumL l < 18446744073709551616 := by
  unfold sumL
  have : ∀ (l : List UInt8) (h : Nat), h < 18446744073709551616 → l.foldl sumStep h < 18446744073709551616 := by
    intro l
    induction l with
    | nil => intro h hh; exact hh
    | cons b l ih => intro h hh; rw [List.foldl_cons]; exact ih _ (Nat.mod_lt _ (by omega))
  exact this l _ (by omega)
theorem sumL_succ (l : List UInt8) (i : Nat) (h : i < l.length) : sumL (l.take (i + 1)) = sumStep (sumL (l.take i)) l[i] := by
  unfold sumL
  rw [List.take_succ_eq_append_getElem h, List.foldl_append, List.foldl_cons, List.foldl_nil]

/-- Is an entry right, behind such an end, in a file of such a size? -/
def GoodE (at_ size : Int) (x : EntI) : Prop :=
  0 ≤ x.a ∧ at_ ≤ x.a ∧ x.a ≤ x.b ∧ x.b ≤ size ∧ 1 ≤ x.v ∧ x.v ≤ 4 ∧ 0 ≤ x.p ∧ x.p ≤ 65536 ∧ x.s.size ≤ 1048576 ∧ (x.v = 1 ∨ x.s.size = 0)
/-- The end of the entry ahead. -/
def prevB (es : List EntI) (j : Nat) : Int := if j = 0 then 0 else ((es[j - 1]?).map EntI.b).getD 0
theorem prevB_zero (es : List EntI) : prevB es 0 = 0 := rfl
theorem prevB_succ (es : List EntI) (j : Nat) (h : j < es.length) : prevB es (j + 1) = es[j].b := by
  unfold prevB
  rw [if_neg (by omega), Nat.add_sub_cancel, List.getElem?_eq_getElem h]; rfl
def FormE (size : Int) (es : List EntI) : Prop := ∀ (j : Nat) (h : j < es.length), GoodE (prevB es j) size es[j]
def FormT (t : TabN) : Prop := 1 ≤ t.deep ∧ t.deep ≤ 4096 ∧ 0 ≤ t.size ∧ t.size ≤ 1048576 ∧ t.es.length ≤ 4096 ∧ FormE t.size t.es

/-- The bytes of an entry, of a table. -/
def entL (x : EntI) : List UInt8 := leB x.a.toNat 8 ++ (leB x.b.toNat 8 ++ (leB x.v.toNat 1 ++ (leB x.p.toNat 8 ++ (leB x.s.size 8 ++ x.s.data.toList))))
def entsL (es : List EntI) : List UInt8 := es.flatMap entL
def nameL : List UInt8 := [108, 97, 99, 101, 119, 111, 114, 107]
def headN (d n k : Nat) : List UInt8 := nameL ++ (leB d 8 ++ (leB n 8 ++ leB k 8))
def headL (t : TabN) : List UInt8 := headN t.deep.toNat t.size.toNat t.es.length ++ entsL t.es
def tabL (t : TabN) : List UInt8 := headL t ++ leB (sumL (headL t)) 8
theorem nameL_length : nameL.length = 8 := rfl
theorem headN_length (d n k : Nat) : (headN d n k).length = 32 := by unfold headN; simp only [List.length_append, leB_length, nameL_length]
theorem entL_length (x : EntI) : (entL x).length = 33 + x.s.size := by
  have : x.s.data.toList.length = x.s.size := by rw [Array.length_toList]; rfl
  unfold entL; simp only [List.length_append, leB_length, this]; omega
theorem entsL_nil : entsL [] = [] := rfl
theorem entsL_cons (x : EntI) (es : List EntI) : entsL (x :: es) = entL x ++ entsL es := rfl
theorem entsL_append (xs ys : List EntI) : entsL (xs ++ ys) = entsL xs ++ entsL ys := by unfold entsL; rw [List.flatMap_append]
theorem entsL_snoc (xs : List EntI) (x : EntI) : entsL (xs ++ [x]) = entsL xs ++ entL x := by rw [entsL_append, entsL_cons, entsL_nil, List.append_nil]
theorem headL_length (t : TabN) : (headL t).length = 32 + (entsL t.es).length := by unfold headL; rw [List.length_append, headN_length]

/-- What is read is in these bounds. -/
def InR (x : EntI) : Prop := 0 ≤ x.a ∧ x.a ≤ 1048576 ∧ 0 ≤ x.b ∧ x.b ≤ 1048576 ∧ 0 ≤ x.v ∧ x.v < 256 ∧ 0 ≤ x.p ∧ x.p ≤ 65536 ∧ x.s.size ≤ 1048576
theorem FormE.inR {size : Int} {es : List EntI} (h : FormE size es) (hs : size ≤ 1048576) : ∀ x ∈ es, InR x := fun x hx => by
  obtain ⟨j, hj, rfl⟩ := List.getElem_of_mem hx
  obtain ⟨h1, h2, h3, h4, h5, h6, h7, h8, h9, h10⟩ := h j hj
  exact ⟨h1, by omega, by omega, by omega, by omega, by omega, h7, h8, h9⟩
end L
end Go.Proofs.YtgpbpgpolpakjaaGreatDoor

/- Walks: the sum of bytes; numbers of few bytes; a reader of bytes. -/




set_option linter.unusedVariables false
set_option linter.unusedSimpArgs false
set_option maxRecDepth 100000
namespace Go.Proofs.YtgpbpgpolpakjaaGreatDoor
open Go.RowKit Go.Shelf L

theorem L.sum_xor (h : Nat) (b : UInt8) (hh : h < 18446744073709551616) : bits BinOp.xor IntKind.u64 (h : Int) (b.toNat : Int) = ((h ^^^ b.toNat : Nat) : Int) := by
  have := UInt8.toNat_lt b
  exact u64_xor_nat h b.toNat hh (by omega)
theorem L.sum_mul (h : Nat) (b : UInt8) : IntKind.u64.wrap (((h ^^^ b.toNat : Nat) : Int) * 1099511628211) = ((sumStep h b : Nat) : Int) := by
  rw [IntKind.wrap_u64]
  unfold sumStep
  simp

set_option maxHeartbeats 400000 in
theorem idxSum_any (s : ByteArray) (w : World) (hs : s.size ≤ 1000000000) :
    Calls Tryz.prog 116 #[.string s] w fun e w' => e = .returned (.int .u64 (sumL s.data.toList : Nat)) ∧ w = w' := by
  have hsz : s.data.toList.length = s.size := by rw [Array.length_toList]; rfl
  go_enter Tryz.func116, Tryz.ntmps116
  go_wp2_with fail
  go_loop [3, 7] (fun h i => ∃ k : Nat, k ≤ s.size ∧ i = .int .i64 k ∧ h = .int .u64 (sumL (s.data.toList.take k) : Nat)) (fun _ i => s.size - (intOf i).toNat)
  case atStart => exact ⟨0, by omega, rfl, rfl⟩
  case round =>
    obtain ⟨k, hk, rfl, rfl⟩ := hrel
    rcases Nat.lt_or_ge k s.size with hlt | hge
    · have hki : (k : Int) < (s.size : Int) := by omega
      have hk0 : (0 : Int) ≤ (k : Int) := by omega
      have hst := sumL_succ s.data.toList k (by omega)
      rw [show s.data.toList[k]'(by omega) = s[k] from rfl] at hst
      have H := hid hst
      have hx := sum_xor (sumL (s.data.toList.take k)) s[k] (sumL_lt _)
      have hm := sum_mul (sumL (s.data.toList.take k)) s[k]
      have hb : (s[k].toNat : Int) < 256 := by have := UInt8.toNat_lt s[k]; omega
      clear hst
      generalize sumL (s.data.toList.take k) = h at *
      generalize h ^^^ s[k].toNat = x at *
      go_wp2_with fail
      go_round
      case rel => exact ⟨k + 1, by omega, by go_num, by rw [H.out]⟩
      case measure => simp [intOf]; omega
    · obtain rfl : k = s.size := by omega
      go_wp2_with fail
      go_ret
      exact ⟨by rw [List.take_of_length_le (by omega)]; rfl, rfl⟩
set_option maxHeartbeats 400000 in
theorem refSum25_any (s : ByteArray) (w : World) (hs : s.size ≤ 1000000000) :
    Calls Tryz.prog 24 #[.string s] w fun e w' => e = .returned (.int .u64 (sumL s.data.toList : Nat)) ∧ w = w' := by
  have hsz : s.data.toList.length = s.size := by rw [Array.length_toList]; rfl
  go_enter Tryz.func24, Tryz.ntmps24
  go_wp2_with fail
  go_loop [3, 4] (fun h i => ∃ k : Nat, k ≤ s.size ∧ i = .int .i64 k ∧ h = .int .u64 (sumL (s.data.toList.take k) : Nat)) (fun _ i => s.size - (intOf i).toNat)
  case atStart => exact ⟨0, by omega, rfl, rfl⟩
  case round =>
    obtain ⟨k, hk, rfl, rfl⟩ := hrel
    rcases Nat.lt_or_ge k s.size with hlt | hge
    · have hki : (k : Int) < (s.size : Int) := by omega
      have hk0 : (0 : Int) ≤ (k : Int) := by omega
      have hst := sumL_succ s.data.toList k (by omega)
      rw [show s.data.toList[k]'(by omega) = s[k] from rfl] at hst
      have H := hid hst
      have hx := sum_xor (sumL (s.data.toList.take k)) s[k] (sumL_lt _)
      have hm := sum_mul (sumL (s.data.toList.take k)) s[k]
      have hb : (s[k].toNat : Int) < 256 := by have := UInt8.toNat_lt s[k]; omega
      clear hst
      generalize sumL (s.data.toList.take k) = h at *
      generalize h ^^^ s[k].toNat = x at *
      go_wp2_with fail
      go_round
      case rel => exact ⟨k + 1, by omega, by go_num, by rw [H.out]⟩
      case measure => simp [intOf]; omega
    · obtain rfl : k = s.size := by omega
      go_wp2_with fail
      go_ret
      exact ⟨by rw [List.take_of_length_le (by omega)]; rfl, rfl⟩

theorem idxWithin_any (n a b : Int) (w : World) :
    Calls Tryz.prog 154 #[.int .i64 n, .int .i64 a, .int .i64 b] w fun e w' => e = .returned (.bool (decide (a ≤ n ∧ n ≤ b))) ∧ w = w' := by
  by_cases h1 : a ≤ n
  · by_cases h2 : n ≤ b
    · go_enter Tryz.func154, Tryz.ntmps154
      go_wp2_with fail
      go_ret
      exact ⟨by simp [h1, h2], rfl⟩
    · go_enter Tryz.func154, Tryz.ntmps154
      go_wp2_with fail
      go_ret
      exact ⟨by simp [h1, h2], rfl⟩
  · go_enter Tryz.func154, Tryz.ntmps154
    go_wp2_with fail
    go_ret
    exact ⟨by simp; omega, rfl⟩

/-- A reader in memory: what is ahead of it, and whether it has met what can't be. -/
def RdIs (w : World) (g : Nat) (s : ByteArray) (b : Bool) : Prop := BlkIs w g 170 #[.string s, .bool b]
theorem L.size_list (s : ByteArray) : s.data.toList.length = s.size := by rw [Array.length_toList]; rfl
end Go.Proofs.YtgpbpgpolpakjaaGreatDoor

/- Walks: a reader's entry; is a table formed. -/

set_option linter.unusedVariables false
set_option linter.unusedSimpArgs false
set_option maxRecDepth 100000
namespace Go.Proofs.YtgpbpgpolpakjaaGreatDoor
open Go.RowKit Go.Shelf L

theorem RdIs.only {w w' : World} {g h : Nat} {s : ByteArray} {b : Bool} (hg : RdIs w g s b) (hO : Only (fun k => k = h) w w') (hne : g ≠ h) : RdIs w' g s b := BlkIs.only hg hO hne
theorem ent_under : Tryz.prog.underlying 113 = some (.struct (Tryz.prog.underlying 113 |>.elim #[] fun | .struct fs => fs | _ => #[])) := by rfl
end Go.Proofs.YtgpbpgpolpakjaaGreatDoor
