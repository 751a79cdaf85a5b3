/- Proof text. -/
import Derived.Test.YtgpbpgpolpakjaaGreatDoorMaths
import Derived.Test.YtgpbpgpolpakjaaGreatDoorBitsP
import Derived.Test.YtgpbpgpolpakjaaGreatDoorBitsQ
import Derived.Laws.BitsAllLaws
set_option maxHeartbeats 2000000
set_option linter.unusedVariables false
set_option linter.unusedSimpArgs false
namespace Go.Proofs.YtgpbpgpolpakjaaGreatDoor
namespace L
structure EntI where
 a : Int
 b : Int
 v : Int
 p : Int
 s : ByteArray
structure TabN where
 deep : Int
 size : Int
 es : List EntI
def ziq (h : Nat) (b : UInt8) : Nat := (h ^^^ b.toNat) * 1099511628211 % 18446744073709551616
def sumL (l : List UInt8) : Nat := l.foldl ziq 14695981039346656037
theorem zfe (l : List UInt8) : sumL l < 18446744073709551616 := by
 unfold sumL
 have : ∀ (l : List UInt8) (h : Nat), h < 18446744073709551616 → l.foldl ziq h < 18446744073709551616 := by
  intro l
  induction l with
  | nil => intro h hh; exact hh
  | cons b l ih => intro h hh; rw [List.foldl_cons]; exact ih _ (Nat.mod_lt _ (by omega))
 exact this l _ (by omega)
theorem zqr (l : List UInt8) (i : Nat) (h : i < l.length) : sumL (l.take (i + 1)) = ziq (sumL (l.take i)) l[i] := by
 unfold sumL
 rw [List.take_succ_eq_append_getElem h, List.foldl_append, List.foldl_cons, List.foldl_nil]
def zdc (at_ size : Int) (x : EntI) : Prop :=
 0 ≤ x.a ∧ at_ ≤ x.a ∧ x.a ≤ x.b ∧ x.b ≤ size ∧ 1 ≤ x.v ∧ x.v ≤ 4 ∧ 0 ≤ x.p ∧ x.p ≤ 65536 ∧ x.s.size ≤ 1048576 ∧ (x.v = 1 ∨ x.s.size = 0)
def zbv (es : List EntI) (j : Nat) : Int := if j = 0 then 0 else ((es[j - 1]?).map EntI.b).getD 0
theorem zye (es : List EntI) : zbv es 0 = 0 := rfl
theorem zjc (es : List EntI) (j : Nat) (h : j < es.length) : zbv es (j + 1) = es[j].b := by
 unfold zbv
 rw [if_neg (by omega), Nat.add_sub_cancel, List.getElem?_eq_getElem h]; rfl
def zob (size : Int) (es : List EntI) : Prop := ∀ (j : Nat) (h : j < es.length), zdc (zbv es j) size es[j]
def zae (t : TabN) : Prop := 1 ≤ t.deep ∧ t.deep ≤ 4096 ∧ 0 ≤ t.size ∧ t.size ≤ 1048576 ∧ t.es.length ≤ 4096 ∧ zob t.size t.es
def entL (x : EntI) : List UInt8 := leB x.a.toNat 8 ++ (leB x.b.toNat 8 ++ (leB x.v.toNat 1 ++ (leB x.p.toNat 8 ++ (leB x.s.size 8 ++ x.s.data.toList))))
def zad (es : List EntI) : List UInt8 := es.flatMap entL
def zd4 : List UInt8 := [108, 97, 99, 101, 119, 111, 114, 107]
def zbd (d n k : Nat) : List UInt8 := zd4 ++ (leB d 8 ++ (leB n 8 ++ leB k 8))
def zak (t : TabN) : List UInt8 := zbd t.deep.toNat t.size.toNat t.es.length ++ zad t.es
def tabL (t : TabN) : List UInt8 := zak t ++ leB (sumL (zak t)) 8
theorem zef : zd4.length = 8 := rfl
theorem zt4 (d n k : Nat) : (zbd d n k).length = 32 := by unfold zbd; simp only [List.length_append, ze, zef]
theorem zf6 (x : EntI) : (entL x).length = 33 + x.s.size := by
 have : x.s.data.toList.length = x.s.size := by rw [Array.length_toList]; rfl
 unfold entL; simp only [List.length_append, ze, this]; omega
theorem z0z : zad [] = [] := rfl
theorem zen (x : EntI) (es : List EntI) : zad (x :: es) = entL x ++ zad es := rfl
theorem zeg (xs ys : List EntI) : zad (xs ++ ys) = zad xs ++ zad ys := by unfold zad; rw [List.flatMap_append]
theorem zgx (xs : List EntI) (x : EntI) : zad (xs ++ [x]) = zad xs ++ entL x := by rw [zeg, zen, z0z, List.append_nil]
theorem zl9 (t : TabN) : (tabL t).length = (zak t).length + 8 := by unfold tabL; rw [List.length_append, ze]
theorem zdh (t : TabN) : (zak t).length = 32 + (zad t.es).length := by unfold zak; rw [List.length_append, zt4]
def za1 (l : List UInt8) (t : TabN) : Prop := zae t ∧ l = tabL t
def zb7 (l : List UInt8) (t : TabN) : Prop := zae t ∧ l = zak t
theorem zff {l : List UInt8} {t : TabN} : za1 l t ↔ (40 ≤ l.length ∧ leB (sumL (l.take (l.length - 8))) 8 = l.drop (l.length - 8) ∧ zb7 (l.take (l.length - 8)) t) := by
 constructor
 ·rintro ⟨h1, rfl⟩
  have e1 := zl9 t
  have e2 := zdh t
  have e3 : (tabL t).length - 8 = (zak t).length := by omega
  rw [e3]
  unfold tabL
  rw [List.take_left, List.drop_left]
  exact ⟨by rw [List.length_append, ze]; omega, rfl, h1, rfl⟩
 ·rintro ⟨h1, h2, h3, h4⟩
  refine ⟨h3, ?_⟩
  unfold tabL
  rw [← h4, h2, List.take_append_drop]
theorem zph {n : Nat} {r : List UInt8} (h : n < 256 ^ 8) : valL (leB n 8 ++ r) = n := by
 unfold valL
 rw [List.take_append_of_le_length (by rw [ze]; omega), List.take_of_length_le (by rw [ze]; omega), zix, Nat.mod_eq_of_lt h]
theorem zw0 {l : List UInt8} (h : 8 ≤ l.length) : leB (valL l) 8 ++ l.drop 8 = l := by
 have := zg3 (l.take 8)
 rw [List.length_take, Nat.min_eq_left h] at this
 unfold valL
 rw [this, List.take_append_drop]
def numP (most : Nat) (l : List UInt8) : Option (Nat × List UInt8) := if l.length < 8 then none else if most < valL l then none else some (valL l, l.drop 8)
def bytP (l : List UInt8) : Option (Nat × List UInt8) := if l.length < 1 then none else some ((l[0]?.getD 0).toNat, l.drop 1)
def entP (l : List UInt8) : Option (EntI × List UInt8) :=
 (numP 1048576 l).bind fun x => (numP 1048576 x.2).bind fun y => (bytP y.2).bind fun v => (numP 65536 v.2).bind fun p => (numP 1048576 p.2).bind fun n =>
  if n.2.length < n.1 then none else some (⟨x.1, y.1, v.1, p.1, ⟨(n.2.take n.1).toArray⟩⟩, n.2.drop n.1)
def zd5 : Nat → List UInt8 → Option (List EntI × List UInt8)
 | 0, l => some ([], l)
 | k + 1, l => (entP l).bind fun x => (zd5 k x.2).bind fun y => some (x.1 :: y.1, y.2)
theorem zeh {most : Nat} {l r : List UInt8} {n : Nat} (h : numP most l = some (n, r)) : l = leB n 8 ++ r ∧ n ≤ most := by
 unfold numP at h
 split at h
 ·cases h
 ·split at h
  ·cases h
  ·rename_i h1 h2
   obtain ⟨rfl, rfl⟩ := Prod.mk.inj (Option.some.inj h)
   exact ⟨(zw0 (by omega)).symm, by omega⟩
theorem ze4 {most n : Nat} {r : List UInt8} (h : n ≤ most) (hm : most < 256 ^ 8) : numP most (leB n 8 ++ r) = some (n, r) := by
 unfold numP
 rw [zph (by omega), if_neg (by rw [List.length_append, ze]; omega), if_neg (by omega)]
 rw [List.drop_left' (ze _ _)]
theorem z00 {l r : List UInt8} {n : Nat} (h : bytP l = some (n, r)) : l = leB n 1 ++ r ∧ n < 256 := by
 unfold bytP at h
 split at h
 ·cases h
 ·rename_i h1
  obtain ⟨rfl, rfl⟩ := Prod.mk.inj (Option.some.inj h)
  cases l with
  | nil => simp at h1
  | cons b l => exact ⟨by simp [leB], UInt8.toNat_lt _⟩
theorem z3z {n : Nat} {r : List UInt8} (h : n < 256) : bytP (leB n 1 ++ r) = some (n, r) := by
 unfold bytP
 have e : leB n 1 = [UInt8.ofNat n] := by simp [leB]
 rw [e]
 simp [UInt8.toNat_ofNat', Nat.mod_eq_of_lt h]
def InR (x : EntI) : Prop := 0 ≤ x.a ∧ x.a ≤ 1048576 ∧ 0 ≤ x.b ∧ x.b ≤ 1048576 ∧ 0 ≤ x.v ∧ x.v < 256 ∧ 0 ≤ x.p ∧ x.p ≤ 65536 ∧ x.s.size ≤ 1048576
theorem z01 {l r : List UInt8} {x : EntI} (h : entP l = some (x, r)) : l = entL x ++ r ∧ InR x := by
 unfold entP at h
 obtain ⟨⟨a, l1⟩, h1, h⟩ := Option.bind_eq_some_iff.1 h
 obtain ⟨⟨b, l2⟩, h2, h⟩ := Option.bind_eq_some_iff.1 h
 obtain ⟨⟨v, l3⟩, h3, h⟩ := Option.bind_eq_some_iff.1 h
 obtain ⟨⟨p, l4⟩, h4, h⟩ := Option.bind_eq_some_iff.1 h
 obtain ⟨⟨n, l5⟩, h5, h⟩ := Option.bind_eq_some_iff.1 h
 dsimp only at h2 h3 h4 h5 h
 split at h
 ·cases h
 ·rename_i hn
  obtain ⟨rfl, rfl⟩ := Prod.mk.inj (Option.some.inj h)
  obtain ⟨rfl, b1⟩ := zeh h1
  obtain ⟨rfl, b2⟩ := zeh h2
  obtain ⟨rfl, b3⟩ := z00 h3
  obtain ⟨rfl, b4⟩ := zeh h4
  obtain ⟨rfl, b5⟩ := zeh h5
  have hsz : (ByteArray.mk (l5.take n).toArray).size = n := by
   show (l5.take n).toArray.size = n
   rw [List.size_toArray, List.length_take]; omega
  refine ⟨?_, by unfold InR; dsimp only; rw [hsz]; omega⟩
  unfold entL
  rw [hsz]
  simp only [Int.toNat_natCast, List.append_assoc]
  rw [List.take_append_drop]
theorem z02 {x : EntI} (h : InR x) (r : List UInt8) : entP (entL x ++ r) = some (x, r) := by
 obtain ⟨h1, h2, h3, h4, h5, h6, h7, h8, h9⟩ := h
 have hl : x.s.data.toList.length = x.s.size := by rw [Array.length_toList]; rfl
 unfold entP entL
 simp only [List.append_assoc]
 rw [ze4 (by omega) (by omega)]
 simp only [Option.bind_some]
 rw [ze4 (by omega) (by omega)]
 simp only [Option.bind_some]
 rw [z3z (by omega)]
 simp only [Option.bind_some]
 rw [ze4 (by omega) (by omega)]
 simp only [Option.bind_some]
 rw [ze4 (by omega) (by omega)]
 simp only [Option.bind_some]
 rw [if_neg (by rw [List.length_append, hl]; omega), List.take_left' hl, List.drop_left' hl]
 congr 2
 cases x with
 | mk a b v p s =>
   dsimp only at *
   rw [Int.toNat_of_nonneg h1, Int.toNat_of_nonneg h3, Int.toNat_of_nonneg h5, Int.toNat_of_nonneg h7]
theorem zoc : ∀ {k : Nat} {l r : List UInt8} {es : List EntI}, zd5 k l = some (es, r) → l = zad es ++ r ∧ es.length = k ∧ ∀ x ∈ es, InR x
 | 0, l, r, es, h => by
   obtain ⟨rfl, rfl⟩ := Prod.mk.inj (Option.some.inj h)
   exact ⟨rfl, rfl, fun x hx => by cases hx⟩
 | k + 1, l, r, es, h => by
   unfold zd5 at h
   obtain ⟨⟨x, l1⟩, h1, h⟩ := Option.bind_eq_some_iff.1 h
   obtain ⟨⟨ys, l2⟩, h2, h⟩ := Option.bind_eq_some_iff.1 h
   dsimp only at h2 h
   obtain ⟨rfl, rfl⟩ := Prod.mk.inj (Option.some.inj h)
   obtain ⟨rfl, b1⟩ := z01 h1
   obtain ⟨rfl, b2, b3⟩ := zoc h2
   refine ⟨by rw [zen, List.append_assoc], by rw [List.length_cons, b2], fun y hy => ?_⟩
   rcases List.mem_cons.1 hy with rfl | hy
   ·exact b1
   ·exact b3 y hy
theorem zma : ∀ (es : List EntI) (r : List UInt8), (∀ x ∈ es, InR x) → zd5 es.length (zad es ++ r) = some (es, r)
 | [], r, _ => rfl
 | x :: es, r, h => by
   rw [zen, List.append_assoc, List.length_cons]
   unfold zd5
   rw [z02 (h x List.mem_cons_self)]
   simp only [Option.bind_some]
   rw [zma es r (fun y hy => h y (List.mem_cons_of_mem _ hy))]
   rfl
theorem zob.inR {size : Int} {es : List EntI} (h : zob size es) (hs : size ≤ 1048576) : ∀ x ∈ es, InR x := fun x hx => by
 obtain ⟨j, hj, rfl⟩ := List.getElem_of_mem hx
 obtain ⟨h1, h2, h3, h4, h5, h6, h7, h8, h9, h10⟩ := h j hj
 exact ⟨h1, by omega, by omega, by omega, by omega, by omega, h7, h8, h9⟩
def zeo (h : List UInt8) : Option (TabN × List UInt8) :=
 if h.length < 8 then none else if h.take 8 ≠ zd4 then none else
  (numP 4096 (h.drop 8)).bind fun d => (numP 1048576 d.2).bind fun n => (numP 4096 n.2).bind fun k => (zd5 k.1 k.2).bind fun es => some (⟨d.1, n.1, es.1⟩, es.2)
theorem zyf {h r : List UInt8} {t : TabN} (e : zeo h = some (t, r)) : h = zak t ++ r := by
 unfold zeo at e
 split at e
 ·cases e
 ·split at e
  ·cases e
  ·rename_i h1 h2
   obtain ⟨⟨d, l1⟩, h3, e⟩ := Option.bind_eq_some_iff.1 e
   obtain ⟨⟨n, l2⟩, h4, e⟩ := Option.bind_eq_some_iff.1 e
   obtain ⟨⟨k, l3⟩, h5, e⟩ := Option.bind_eq_some_iff.1 e
   obtain ⟨⟨es, l4⟩, h6, e⟩ := Option.bind_eq_some_iff.1 e
   dsimp only at h4 h5 h6 e
   obtain ⟨rfl, rfl⟩ := Prod.mk.inj (Option.some.inj e)
   obtain ⟨b1, _⟩ := zeh h3
   obtain ⟨rfl, _⟩ := zeh h4
   obtain ⟨rfl, _⟩ := zeh h5
   obtain ⟨rfl, b2, _⟩ := zoc h6
   have h2' := Decidable.not_not.1 h2
   have := List.take_append_drop 8 h
   rw [h2', b1] at this
   rw [← this]
   unfold zak zbd
   dsimp only
   simp only [Int.toNat_natCast, List.append_assoc, b2]
theorem zyg {t : TabN} (hf : zae t) : zeo (zak t) = some (t, []) := by
 obtain ⟨f1, f2, f3, f4, f5, f6⟩ := hf
 have hi := f6.inR f4
 unfold zeo
 rw [if_neg (by rw [zdh]; omega)]
 have e1 : zak t = zd4 ++ (leB t.deep.toNat 8 ++ (leB t.size.toNat 8 ++ (leB t.es.length 8 ++ (zad t.es ++ [])))) := by
  unfold zak zbd; simp only [List.append_assoc, List.append_nil]
 rw [e1, List.take_left' zef, List.drop_left' zef, if_neg (by simp)]
 rw [ze4 (by omega) (by omega)]
 simp only [Option.bind_some]
 rw [ze4 (by omega) (by omega)]
 simp only [Option.bind_some]
 rw [ze4 (by omega) (by omega)]
 simp only [Option.bind_some]
 rw [zma _ _ hi]
 simp only [Option.bind_some]
 cases t with
 | mk d n es =>
   dsimp only at *
   rw [Int.toNat_of_nonneg f3, Int.toNat_of_nonneg (show (0 : Int) ≤ d by omega)]
theorem zep {h : List UInt8} {t : TabN} : zb7 h t ↔ (zeo h = some (t, []) ∧ zae t) := by
 constructor
 ·rintro ⟨h1, rfl⟩; exact ⟨zyg h1, h1⟩
 ·rintro ⟨h1, h2⟩
  have := zyf h1
  rw [List.append_nil] at this
  exact ⟨h2, this⟩
theorem zb7.uniq {h : List UInt8} {t u : TabN} (a : zb7 h t) (b : zb7 h u) : t = u := by
 have h1 := (zep.1 a).1
 have h2 := (zep.1 b).1
 rw [h1] at h2
 exact (Prod.mk.inj (Option.some.inj h2)).1
theorem za1.uniq {l : List UInt8} {t u : TabN} (a : za1 l t) (b : za1 l u) : t = u := (zff.1 a).2.2.uniq (zff.1 b).2.2
def zb8 (l : List UInt8) : Nat := if l.length < 40 then 3 else if leB (sumL (l.take (l.length - 8))) 8 = l.drop (l.length - 8) then 3 else 11
end L
end Go.Proofs.YtgpbpgpolpakjaaGreatDoor
set_option maxRecDepth 100000
namespace Go.Proofs.YtgpbpgpolpakjaaGreatDoor
open Go.RowKit Go.Shelf L
theorem L.zw1 (h : Nat) (b : UInt8) (hh : h < 18446744073709551616) : bits BinOp.xor IntKind.u64 (h : Int) (b.toNat : Int) = ((h ^^^ b.toNat : Nat) : Int) := by
 have := UInt8.toNat_lt b
 exact u64_xor_nat h b.toNat hh (by omega)
theorem L.zw2 (h : Nat) (b : UInt8) : IntKind.u64.wrap (((h ^^^ b.toNat : Nat) : Int) * 1099511628211) = ((ziq h b : Nat) : Int) := by
 rw [IntKind.wrap_u64]
 unfold ziq
 simp
theorem zod (s : ByteArray) (w : World) (hs : s.size ≤ 1000000000) :
  Calls Tryz.prog 116 #[.string s] w fun e w' => e = .returned (.int .u64 (sumL s.data.toList : Nat)) ∧ w = w' := by
 have hsz : s.data.toList.length = s.size := by rw [Array.length_toList]; rfl
 go_enter Tryz.func116, Tryz.ntmps116
 go_wp2_with fail
 go_loop [3, 7] (fun h i => ∃ k : Nat, k ≤ s.size ∧ i = .int .i64 k ∧ h = .int .u64 (sumL (s.data.toList.take k) : Nat)) (fun _ i => s.size - (intOf i).toNat)
 case atStart => exact ⟨0, by omega, rfl, rfl⟩
 case round =>
  obtain ⟨k, hk, rfl, rfl⟩ := hrel
  rcases Nat.lt_or_ge k s.size with hlt | hge
  ·have hki : (k : Int) < (s.size : Int) := by omega
   have hk0 : (0 : Int) ≤ (k : Int) := by omega
   have hst := zqr s.data.toList k (by omega)
   rw [show s.data.toList[k]'(by omega) = s[k] from rfl] at hst
   have H := hid hst
   have hx := zw1 (sumL (s.data.toList.take k)) s[k] (zfe _)
   have hm := zw2 (sumL (s.data.toList.take k)) s[k]
   have hb : (s[k].toNat : Int) < 256 := by have := UInt8.toNat_lt s[k]; omega
   clear hst
   generalize sumL (s.data.toList.take k) = h at *
   generalize h ^^^ s[k].toNat = x at *
   go_wp2_with fail
   go_round
   case rel => exact ⟨k + 1, by omega, by go_num, by rw [H.out]⟩
   case measure => simp [intOf]; omega
  ·obtain rfl : k = s.size := by omega
   go_wp2_with fail
   go_ret
   exact ⟨by rw [List.take_of_length_le (by omega)]; rfl, rfl⟩
theorem zhe (s : ByteArray) (w : World) (hs : s.size ≤ 1000000000) :
  Calls Tryz.prog 24 #[.string s] w fun e w' => e = .returned (.int .u64 (sumL s.data.toList : Nat)) ∧ w = w' := by
 have hsz : s.data.toList.length = s.size := by rw [Array.length_toList]; rfl
 go_enter Tryz.func24, Tryz.ntmps24
 go_wp2_with fail
 go_loop [3, 4] (fun h i => ∃ k : Nat, k ≤ s.size ∧ i = .int .i64 k ∧ h = .int .u64 (sumL (s.data.toList.take k) : Nat)) (fun _ i => s.size - (intOf i).toNat)
 case atStart => exact ⟨0, by omega, rfl, rfl⟩
 case round =>
  obtain ⟨k, hk, rfl, rfl⟩ := hrel
  rcases Nat.lt_or_ge k s.size with hlt | hge
  ·have hki : (k : Int) < (s.size : Int) := by omega
   have hk0 : (0 : Int) ≤ (k : Int) := by omega
   have hst := zqr s.data.toList k (by omega)
   rw [show s.data.toList[k]'(by omega) = s[k] from rfl] at hst
   have H := hid hst
   have hx := zw1 (sumL (s.data.toList.take k)) s[k] (zfe _)
   have hm := zw2 (sumL (s.data.toList.take k)) s[k]
   have hb : (s[k].toNat : Int) < 256 := by have := UInt8.toNat_lt s[k]; omega
   clear hst
   generalize sumL (s.data.toList.take k) = h at *
   generalize h ^^^ s[k].toNat = x at *
   go_wp2_with fail
   go_round
   case rel => exact ⟨k + 1, by omega, by go_num, by rw [H.out]⟩
   case measure => simp [intOf]; omega
  ·obtain rfl : k = s.size := by omega
   go_wp2_with fail
   go_ret
   exact ⟨by rw [List.take_of_length_le (by omega)]; rfl, rfl⟩
theorem zdu (n a b : Int) (w : World) :
  Calls Tryz.prog 154 #[.int .i64 n, .int .i64 a, .int .i64 b] w fun e w' => e = .returned (.bool (decide (a ≤ n ∧ n ≤ b))) ∧ w = w' := by
 by_cases h1 : a ≤ n
 ·by_cases h2 : n ≤ b
  ·go_enter Tryz.func154, Tryz.ntmps154
   go_wp2_with fail
   go_ret
   exact ⟨by simp [h1, h2], rfl⟩
  ·go_enter Tryz.func154, Tryz.ntmps154
   go_wp2_with fail
   go_ret
   exact ⟨by simp [h1, h2], rfl⟩
 ·go_enter Tryz.func154, Tryz.ntmps154
  go_wp2_with fail
  go_ret
  exact ⟨by simp; omega, rfl⟩
theorem zmt (s : ByteArray) (w : World) (hs : s.size ≤ 8) :
  Calls Tryz.prog 115 #[.string s] w fun e w' => e = .returned (.int .u64 (valL s.data.toList : Nat)) ∧ w = w' := by
 have hsz : s.data.toList.length = s.size := by rw [Array.length_toList]; rfl
 have he : valL s.data.toList = leTo s s.size := by unfold valL leTo; rw [List.take_of_length_le (by omega), List.take_of_length_le (by omega)]
 rw [he]
 clear he hsz
 go_enter Tryz.func115, Tryz.ntmps115
 go_wp2_with fail
 go_loop [3, 7] (fun v i => ∃ k : Nat, k ≤ s.size ∧ i = .int .i64 k ∧ v = .int .u64 (leTo s k : Nat)) (fun _ i => s.size - (intOf i).toNat)
 case atStart => exact ⟨0, by omega, rfl, by simp [leTo, nats, nest]⟩
 case round =>
  obtain ⟨k, hk, rfl, rfl⟩ := hrel
  rcases Nat.lt_or_ge k s.size with hlt | hge
  ·have hki : (k : Int) < (s.size : Int) := by omega
   have hk8 : k < 8 := by omega
   have H := hid (zkd s k hlt hk8)
   have hb : (s[k].toNat : Int) < 256 := by have := UInt8.toNat_lt s[k]; omega
   have hl64 : leTo s k < 18446744073709551616 := Nat.lt_of_lt_of_le (zlg s k) (zcu (by omega))
   go_wp2_with fail
   go_round
   case rel =>
    refine ⟨k + 1, by omega, by go_num, ?_⟩
    rw [zgb _ _ _ hl64, H.out]
   case measure => simp [intOf]; omega
  ·obtain rfl : k = s.size := by omega
   go_wp2_with fail
   go_ret
   exact ⟨rfl, rfl⟩
def RdIs (w : World) (g : Nat) (s : ByteArray) (b : Bool) : Prop := za w g 170 #[.string s, .bool b]
def zrn (s : ByteArray) (b : Bool) (n : Nat) (t s' : ByteArray) (b' : Bool) : Prop :=
 (b = false ∧ b' = false ∧ n ≤ s.size ∧ t = s.extract 0 n ∧ s' = s.extract n s.size) ∨ ((b = true ∨ s.size < n) ∧ t = ⟨#[]⟩ ∧ b' = true)
def z4a (g : Nat) (s : ByteArray) (b : Bool) (n : Nat) (w : World) (e : Ending) (w' : World) : Prop :=
 ∃ t s' b', e = .returned (.string t) ∧ RdIs w' g s' b' ∧ Only (fun k => k = g) w w' ∧ zrn s b n t s' b'
theorem zjd (g : Nat) (s : ByteArray) (b : Bool) (n : Nat) (w : World) (hg : RdIs w g s b) :
  Calls Tryz.prog 117 #[.pointer (some ⟨g, 0, none⟩), .int .i64 (n : Nat)] w (z4a g s b n w) := by
 have hg' : za w g 170 #[.string s, .bool b] := hg
 have c0 := hg'.cell 0
 have c1 := hg'.cell 1
 have f0 := hg'.frozen 0
 have f1 := hg'.frozen 1
 have p1 := hg'.put 1 (.bool true)
 have n0 : (0 : Int) ≤ (n : Int) := by omega
 have d0 : ¬ (n : Int) < 0 := by omega
 by_cases hn : s.size < n
 ·have hnI : (s.size : Int) < (n : Int) := by omega
  have HP := hid p1
  have d1 := HP.out.cell 1
  go_enter Tryz.func117, Tryz.ntmps117
  go_wp2_with fail
  go_ret
  exact ⟨_, s, true, rfl, HP.out, (Only.refl (fun k => k = g) w).setCell (p := ⟨g, 1, none⟩) (.inl rfl) _, .inr ⟨.inr hn, rfl, rfl⟩⟩
 ·have hnI : ¬ (s.size : Int) < (n : Int) := by omega
  have hnJ : (n : Int) ≤ (s.size : Int) := by omega
  cases b with
  | true =>
    go_enter Tryz.func117, Tryz.ntmps117
    go_wp2_with fail
    go_ret
    exact ⟨_, s, true, rfl, hg', Only.refl _ _, .inr ⟨.inl rfl, rfl, rfl⟩⟩
  | false =>
    go_enter Tryz.func117, Tryz.ntmps117
    go_wp2_with fail
    go_ret
    exact ⟨_, s.extract n s.size, false, rfl, hg'.put 0 _, (Only.refl (fun k => k = g) w).setCell (p := ⟨g, 0, none⟩) (.inl rfl) _, .inl ⟨rfl, rfl, by omega, rfl, rfl⟩⟩
def NumR (s : ByteArray) (b : Bool) (most v : Nat) (s' : ByteArray) (b' : Bool) : Prop :=
 (b = false ∧ b' = false ∧ numP most s.data.toList = some (v, s'.data.toList)) ∨ ((b = true ∨ numP most s.data.toList = none) ∧ v = 0 ∧ b' = true)
theorem L.zan (s : ByteArray) : s.data.toList.length = s.size := by rw [Array.length_toList]; rfl
theorem L.ext_list (s : ByteArray) (a b : Nat) : (s.extract a b).data.toList = (s.data.toList.drop a).take (b - a) := by
 rw [ByteArray.data_extract, Array.toList_extract, List.extract_eq_take_drop]
theorem L.z03 (l : List UInt8) : valL (l.take 8) = valL l := by unfold valL; rw [List.take_take, Nat.min_self]
def z7b (g : Nat) (s : ByteArray) (b : Bool) (most : Nat) (w : World) (e : Ending) (w' : World) : Prop :=
 ∃ v s' b', e = .returned (.int .i64 (v : Nat)) ∧ v ≤ most ∧ RdIs w' g s' b' ∧ Only (fun k => k = g) w w' ∧ NumR s b most v s' b'
theorem zfn (g : Nat) (s : ByteArray) (b : Bool) (most : Nat) (w : World) (hg : RdIs w g s b) (hm : most < 9223372036854775808) :
  Calls Tryz.prog 118 #[.pointer (some ⟨g, 0, none⟩), .int .i64 (most : Nat)] w (z7b g s b most w) := by
 have HT := hid (zjd g s b 8 w hg)
 go_enter Tryz.func118, Tryz.ntmps118
 go_wp2_with fail
 refine (HT.out).mono ?_
 rintro e w1 ⟨t, s', b', rfl, hg1, hO1, hT⟩
 have ht8 : t.size ≤ 8 := by
  rcases hT with ⟨_, _, h3, rfl, _⟩ | ⟨_, rfl, _⟩
  ·rw [ByteArray.size_extract]; omega
  ·decide
 have HW := hid (zmt t w1 ht8)
 have hv64 : valL t.data.toList < 18446744073709551616 := zlk _
 have HR := hid (show (most < valL t.data.toList → NumR s b most 0 s' true) ∧ (valL t.data.toList ≤ most → NumR s b most (valL t.data.toList) s' b') from by
  rcases hT with ⟨rfl, rfl, h3, rfl, rfl⟩ | ⟨h1, rfl, rfl⟩
  ·have e1 : valL (s.extract 0 8).data.toList = valL s.data.toList := by rw [ext_list, List.drop_zero, Nat.sub_zero, z03]
   have e2 : (s.extract 8 s.size).data.toList = s.data.toList.drop 8 := by
    rw [ext_list]; exact List.take_of_length_le (by rw [List.length_drop, zan]; exact Nat.le_refl _)
   rw [e1]
   constructor
   ·intro h; exact .inr ⟨.inr (by unfold numP; rw [if_neg (by rw [zan]; omega), if_pos h]), rfl, rfl⟩
   ·intro h; exact .inl ⟨rfl, rfl, by unfold numP; rw [if_neg (by rw [zan]; omega), if_neg (by omega), e2]⟩
  ·have e0 : valL (ByteArray.mk #[]).data.toList = 0 := rfl
   rw [e0]
   have hb : b = true ∨ numP most s.data.toList = none := by
    rcases h1 with h1 | h1
    ·exact .inl h1
    ·right; unfold numP; rw [if_pos (by rw [zan]; omega)]
   exact ⟨fun h => .inr ⟨hb, rfl, rfl⟩, fun h => .inr ⟨hb, rfl, rfl⟩⟩)
 clear hT HT
 generalize valL t.data.toList = v at *
 go_wp2_with fail
 refine (HW.out).mono ?_
 rintro e w' ⟨rfl, rfl⟩
 have hg1' : za w1 g 170 #[.string s', .bool b'] := hg1
 have c1 := hg1'.cell 1
 have f1 := hg1'.frozen 1
 have hmw : IntKind.u64.wrap (most : Int) = (most : Int) := by rw [IntKind.wrap_u64]; omega
 by_cases hv : most < v
 ·have hvI : (most : Int) < (v : Int) := by omega
  have HP := hid (hg1'.put 1 (.bool true))
  go_wp2_with fail
  go_ret
  exact ⟨0, s', true, rfl, by omega, HP.out, hO1.setCell (p := ⟨g, 1, none⟩) (.inl rfl) _, HR.out.1 hv⟩
 ·have hvI : ¬ (most : Int) < (v : Int) := by omega
  have hvw : IntKind.i64.wrap (v : Int) = (v : Int) := by rw [IntKind.wrap_i64]; omega
  go_wp2_with fail
  go_ret
  exact ⟨v, s', b', by first | rfl | (rw [hvw]), by omega, hg1, hO1, HR.out.2 (by omega)⟩
def z8o (x : EntI) : Array Value := #[.int .i64 x.a, .int .i64 x.b, .int .i64 x.v, .int .i64 x.p, .string x.s]
def EntR (s : ByteArray) (b : Bool) (x : EntI) (s' : ByteArray) (b' : Bool) : Prop :=
 (b = false ∧ b' = false ∧ entP s.data.toList = some (x, s'.data.toList)) ∨ ((b = true ∨ entP s.data.toList = none) ∧ b' = true)
theorem L.zt5 (t : ByteArray) (h : t.size ≤ 1) : valL t.data.toList = (t.data.toList[0]?.getD 0).toNat := by
 have hl := zan t
 cases e : t.data.toList with
 | nil => rfl
 | cons c l =>
   rw [e] at hl
   have : l = [] := by cases l with
    | nil => rfl
    | cons d l => simp at hl; omega
   subst this
   simp [valL, nats, nest]
theorem z7c {s s1 s2 s3 s4 s5 s6 t u : ByteArray} {b b1 b2 b3 b4 b5 b6 : Bool} {x y p n : Nat}
  (h1 : NumR s b 1048576 x s1 b1) (h2 : NumR s1 b1 1048576 y s2 b2) (h3 : zrn s2 b2 1 t s3 b3) (h4 : NumR s3 b3 65536 p s4 b4) (h5 : NumR s4 b4 1048576 n s5 b5) (h6 : zrn s5 b5 n u s6 b6) :
  EntR s b ⟨(x : Nat), (y : Nat), (valL t.data.toList : Nat), (p : Nat), u⟩ s6 b6 := by
 have hbad : ∀ {s s' : ByteArray} {b b' : Bool} {m v : Nat}, b = true → NumR s b m v s' b' → b' = true := fun hb h => by
  rcases h with ⟨e, _⟩ | ⟨_, _, e⟩
  ·rw [hb] at e; cases e
  ·exact e
 have tbad : ∀ {s s' t : ByteArray} {b b' : Bool} {m : Nat}, b = true → zrn s b m t s' b' → b' = true := fun hb h => by
  rcases h with ⟨e, _⟩ | ⟨_, _, e⟩
  ·rw [hb] at e; cases e
  ·exact e
 cases b with
 | true => exact .inr ⟨.inl rfl, tbad (hbad (hbad (tbad (hbad (hbad rfl h1) h2) h3) h4) h5) h6⟩
 | false =>
   rcases h1 with ⟨_, rfl, e1⟩ | ⟨hn, _, hb⟩
   case inr =>
    refine .inr ⟨.inr ?_, tbad (hbad (hbad (tbad (hbad hb h2) h3) h4) h5) h6⟩
    rcases hn with hn | hn
    ·cases hn
    ·unfold entP; rw [hn]; rfl
   rcases h2 with ⟨_, rfl, e2⟩ | ⟨hn, _, hb⟩
   case inr =>
    refine .inr ⟨.inr ?_, tbad (hbad (hbad (tbad hb h3) h4) h5) h6⟩
    rcases hn with hn | hn
    ·cases hn
    ·unfold entP; rw [e1]; simp only [Option.bind_some, hn]; rfl
   rcases h3 with ⟨_, rfl, e3, rfl, rfl⟩ | ⟨hn, _, hb⟩
   case inr =>
    refine .inr ⟨.inr ?_, tbad (hbad (hbad hb h4) h5) h6⟩
    rcases hn with hn | hn
    ·cases hn
    ·unfold entP; rw [e1]; simp only [Option.bind_some, e2]
     unfold bytP; rw [if_pos (by rw [zan]; exact hn)]; rfl
   have hb1 : bytP s2.data.toList = some (valL (s2.extract 0 1).data.toList, (s2.extract 1 s2.size).data.toList) := by
    unfold bytP
    rw [if_neg (by rw [zan]; omega), zt5 _ (by rw [ByteArray.size_extract]; omega), ext_list, ext_list]
    congr 1
    ·congr 1
     ·rw [List.drop_zero]
      cases s2.data.toList <;> rfl
     ·exact (List.take_of_length_le (by rw [List.length_drop, zan]; exact Nat.le_refl _)).symm
   rcases h4 with ⟨_, rfl, e4⟩ | ⟨hn, _, hb⟩
   case inr =>
    refine .inr ⟨.inr ?_, tbad (hbad hb h5) h6⟩
    rcases hn with hn | hn
    ·cases hn
    ·unfold entP; rw [e1]; simp only [Option.bind_some, e2, hb1, hn]; rfl
   rcases h5 with ⟨_, rfl, e5⟩ | ⟨hn, _, hb⟩
   case inr =>
    refine .inr ⟨.inr ?_, tbad hb h6⟩
    rcases hn with hn | hn
    ·cases hn
    ·unfold entP; rw [e1]; simp only [Option.bind_some, e2, hb1, e4, hn]; rfl
   rcases h6 with ⟨_, rfl, e6, rfl, rfl⟩ | ⟨hn, _, hb⟩
   case inr =>
    refine .inr ⟨.inr ?_, hb⟩
    rcases hn with hn | hn
    ·cases hn
    ·unfold entP; rw [e1]; simp only [Option.bind_some, e2, hb1, e4, e5]
     rw [if_pos (by rw [zan]; exact hn)]
   refine .inl ⟨rfl, rfl, ?_⟩
   unfold entP
   rw [e1]; simp only [Option.bind_some, e2, hb1, e4, e5]
   rw [if_neg (by rw [zan]; omega)]
   have eu : (ByteArray.mk (s5.data.toList.take n).toArray) = s5.extract 0 n := by
    apply ByteArray.ext
    apply Array.toList_inj.1
    rw [ext_list, List.drop_zero, Nat.sub_zero]
   rw [eu, ext_list s5 n s5.size]
   congr 2
   exact (List.take_of_length_le (by rw [List.length_drop, zan]; exact Nat.le_refl _)).symm
theorem zqs : Tryz.prog.underlying 113 = some (.struct (Tryz.prog.underlying 113 |>.elim #[] fun | .struct fs => fs | _ => #[])) := by rfl
theorem RdIs.blk5 {w : World} {g h : Nat} {s : ByteArray} {b : Bool} (hg : RdIs w g s b) (hne : g ≠ h) (a c d e f : Value) : RdIs (((((w.setCell ⟨h, 0, none⟩ a).setCell ⟨h, 1, none⟩ c).setCell ⟨h, 2, none⟩ d).setCell ⟨h, 3, none⟩ e).setCell ⟨h, 4, none⟩ f) g s b :=
 ((((za.far hg (p := ⟨h, 0, none⟩) hne a).far (p := ⟨h, 1, none⟩) hne c).far (p := ⟨h, 2, none⟩) hne d).far (p := ⟨h, 3, none⟩) hne e).far (p := ⟨h, 4, none⟩) hne f
theorem z04 {S : Nat → Prop} {w w' : World} {h : Nat} (hO : Only S w w') (hh : S h ∨ w.heap.size ≤ h) (a c d e f : Value) : Only S w (((((w'.setCell ⟨h, 0, none⟩ a).setCell ⟨h, 1, none⟩ c).setCell ⟨h, 2, none⟩ d).setCell ⟨h, 3, none⟩ e).setCell ⟨h, 4, none⟩ f) :=
 ((((hO.setCell (p := ⟨h, 0, none⟩) hh a).setCell (p := ⟨h, 1, none⟩) hh c).setCell (p := ⟨h, 2, none⟩) hh d).setCell (p := ⟨h, 3, none⟩) hh e).setCell (p := ⟨h, 4, none⟩) hh f
def z7d (g : Nat) (s : ByteArray) (b : Bool) (w : World) (e : Ending) (w' : World) : Prop :=
 ∃ x s' b', e = .returned (.agg (z8o x)) ∧ RdIs w' g s' b' ∧ Only (fun k => k = g) w w' ∧ EntR s b x s' b'
theorem zvo (g : Nat) (s : ByteArray) (b : Bool) (w : World) (hg : RdIs w g s b) :
  Calls Tryz.prog 119 #[.pointer (some ⟨g, 0, none⟩)] w (z7d g s b w) := by
 have HN := hid (fun s b m W hW hm => zfn g s b m W hW hm)
 have HT := hid (fun s b n W hW => zjd g s b n W hW)
 have hgl := hg.lt
 go_enter Tryz.func119, Tryz.ntmps119
 have hR0 : za ((w.alloc (.cells #[.int .i64 0, .int .i64 0, .int .i64 0, .int .i64 0, .string ⟨#[]⟩] 113)).alloc (.cells #[.int .i64 0, .int .i64 0, .int .i64 0, .int .i64 0, .string ⟨#[]⟩] 113)) w.heap.size 113 #[.int .i64 0, .int .i64 0, .int .i64 0, .int .i64 0, .string ⟨#[]⟩] := (za.new _ _ _).alloc _
 have hX0 : za ((w.alloc (.cells #[.int .i64 0, .int .i64 0, .int .i64 0, .int .i64 0, .string ⟨#[]⟩] 113)).alloc (.cells #[.int .i64 0, .int .i64 0, .int .i64 0, .int .i64 0, .string ⟨#[]⟩] 113)) (w.heap.size + 1) 113 #[.int .i64 0, .int .i64 0, .int .i64 0, .int .i64 0, .string ⟨#[]⟩] := by
  have := za.new (w.alloc (.cells #[.int .i64 0, .int .i64 0, .int .i64 0, .int .i64 0, .string ⟨#[]⟩] 113)) 113 #[.int .i64 0, .int .i64 0, .int .i64 0, .int .i64 0, .string ⟨#[]⟩]
  simpa using this
 have hg0 : RdIs ((w.alloc (.cells #[.int .i64 0, .int .i64 0, .int .i64 0, .int .i64 0, .string ⟨#[]⟩] 113)).alloc (.cells #[.int .i64 0, .int .i64 0, .int .i64 0, .int .i64 0, .string ⟨#[]⟩] 113)) g s b := (za.alloc (za.alloc hg _) _)
 have hO0 : Only (fun k => k = g) w ((w.alloc (.cells #[.int .i64 0, .int .i64 0, .int .i64 0, .int .i64 0, .string ⟨#[]⟩] 113)).alloc (.cells #[.int .i64 0, .int .i64 0, .int .i64 0, .int .i64 0, .string ⟨#[]⟩] 113)) := ((Only.refl _ _).alloc _).alloc _
 go_wp2_with fail
 generalize ((w.alloc (.cells #[.int .i64 0, .int .i64 0, .int .i64 0, .int .i64 0, .string ⟨#[]⟩] 113)).alloc (.cells #[.int .i64 0, .int .i64 0, .int .i64 0, .int .i64 0, .string ⟨#[]⟩] 113)) = W0 at *
 have ne0 : w.heap.size ≠ g := by omega
 have ne1 : w.heap.size + 1 ≠ g := by omega
 refine (HN.out s b 1048576 W0 hg0 (by omega)).mono ?_
 rintro e w1 ⟨x, s1, b1, rfl, hx, hg1, hO1, r1⟩
 have hX1 := hX0.only hO1 ne1
 have hR1 := hR0.only hO1 ne0
 have hO01 := hO0.trans hO1 (fun _ _ h => h)
 go_wp2_with fail
 refine (HN.out s1 b1 1048576 w1 hg1 (by omega)).mono ?_
 rintro e w2 ⟨y, s2, b2, rfl, hy, hg2, hO2, r2⟩
 have hX2 := hX1.only hO2 ne1
 have hR2 := hR1.only hO2 ne0
 have hO02 := hO01.trans hO2 (fun _ _ h => h)
 have x0 := hX2.cell 0
 have x1 := hX2.cell 1
 have fx0 := hX2.frozen 0
 have fx1 := hX2.frozen 1
 have hX3 := (hX2.put 0 (.int .i64 (x : Nat))).put 1 (.int .i64 (y : Nat))
 have hR3 := (hR2.far (p := ⟨w.heap.size + 1, 0, none⟩) (by simp) (.int .i64 (x : Nat))).far (p := ⟨w.heap.size + 1, 1, none⟩) (by simp) (.int .i64 (y : Nat))
 have hg3 : RdIs ((w2.setCell ⟨w.heap.size + 1, 0, none⟩ (.int .i64 (x : Nat))).setCell ⟨w.heap.size + 1, 1, none⟩ (.int .i64 (y : Nat))) g s2 b2 := (za.far hg2 (p := ⟨w.heap.size + 1, 0, none⟩) (Ne.symm ne1) (.int .i64 (x : Nat))).far (p := ⟨w.heap.size + 1, 1, none⟩) (Ne.symm ne1) (.int .i64 (y : Nat))
 have hO03 := (hO02.setCell (p := ⟨w.heap.size + 1, 0, none⟩) (.inr (by simp)) (.int .i64 (x : Nat))).setCell (p := ⟨w.heap.size + 1, 1, none⟩) (.inr (by simp)) (.int .i64 (y : Nat))
 go_wp2_with fail
 generalize (w2.setCell ⟨w.heap.size + 1, 0, none⟩ (.int .i64 (x : Nat))).setCell ⟨w.heap.size + 1, 1, none⟩ (.int .i64 (y : Nat)) = W3 at *
 refine (HT.out s2 b2 1 W3 hg3).mono ?_
 rintro e w4 ⟨t, s3, b3, rfl, hg4, hO4, r3⟩
 have hX4 := hX3.only hO4 ne1
 have hR4 := hR3.only hO4 ne0
 have hO04 := hO03.trans hO4 (fun _ _ h => h)
 have ht1 : t.size ≤ 1 := by
  rcases r3 with ⟨_, _, h3, rfl, _⟩ | ⟨_, rfl, _⟩
  ·rw [ByteArray.size_extract]; omega
  ·decide
 have HW := hid (zmt t w4 (by omega))
 have hv : valL t.data.toList < 256 := by rw [zt5 t ht1]; exact UInt8.toNat_lt _
 obtain ⟨v, hve⟩ : ∃ v, v = valL t.data.toList := ⟨_, rfl⟩
 rw [← hve] at HW hv
 have HVE := hid hve
 clear hve
 go_wp2_with fail
 refine (HW.out).mono ?_
 rintro e w' ⟨rfl, rfl⟩
 have hvw : IntKind.i64.wrap (v : Int) = (v : Int) := by rw [IntKind.wrap_i64]; omega
 have x0 := hX4.cell 2
 have fx0 := hX4.frozen 2
 have hX5 := hX4.put 2 (.int .i64 (v : Nat))
 have hR5 := hR4.far (p := ⟨w.heap.size + 1, 2, none⟩) (by simp) (.int .i64 (v : Nat))
 have hg5 : RdIs (w4.setCell ⟨w.heap.size + 1, 2, none⟩ (.int .i64 (v : Nat))) g s3 b3 := za.far hg4 (p := ⟨w.heap.size + 1, 2, none⟩) (Ne.symm ne1) (.int .i64 (v : Nat))
 have hO05 := hO04.setCell (p := ⟨w.heap.size + 1, 2, none⟩) (.inr (by simp)) (.int .i64 (v : Nat))
 clear hX4 hR4 hg4 hO04 hX3 hR3 hg3 hO03
 go_wp2_with fail
 generalize w4.setCell ⟨w.heap.size + 1, 2, none⟩ (.int .i64 (v : Nat)) = W5 at *
 refine (HN.out s3 b3 65536 W5 hg5 (by omega)).mono ?_
 rintro e w6 ⟨p, s4, b4, rfl, hp, hg6, hO6, r4⟩
 have hX6 := hX5.only hO6 ne1
 have hR6 := hR5.only hO6 ne0
 have hO06 := hO05.trans hO6 (fun _ _ h => h)
 have x0 := hX6.cell 3
 have fx0 := hX6.frozen 3
 have hX7 := hX6.put 3 (.int .i64 (p : Nat))
 have hR7 := hR6.far (p := ⟨w.heap.size + 1, 3, none⟩) (by simp) (.int .i64 (p : Nat))
 have hg7 : RdIs (w6.setCell ⟨w.heap.size + 1, 3, none⟩ (.int .i64 (p : Nat))) g s4 b4 := za.far hg6 (p := ⟨w.heap.size + 1, 3, none⟩) (Ne.symm ne1) (.int .i64 (p : Nat))
 have hO07 := hO06.setCell (p := ⟨w.heap.size + 1, 3, none⟩) (.inr (by simp)) (.int .i64 (p : Nat))
 clear hX5 hR5 hg5 hO05 hX6 hR6 hg6 hO06
 go_wp2_with fail
 generalize w6.setCell ⟨w.heap.size + 1, 3, none⟩ (.int .i64 (p : Nat)) = W7 at *
 refine (HN.out s4 b4 1048576 W7 hg7 (by omega)).mono ?_
 rintro e w8 ⟨n, s5, b5, rfl, hn, hg8, hO8, r5⟩
 have hX8 := hX7.only hO8 ne1
 have hR8 := hR7.only hO8 ne0
 have hO08 := hO07.trans hO8 (fun _ _ h => h)
 go_wp2_with fail
 refine (HT.out s5 b5 n w8 hg8).mono ?_
 rintro e w9 ⟨u, s6, b6, rfl, hg9, hO9, r6⟩
 have hX9 := hX8.only hO9 ne1
 have hR9 := hR8.only hO9 ne0
 have hO09 := hO08.trans hO9 (fun _ _ h => h)
 have x0 := hX9.cell 4
 have fx0 := hX9.frozen 4
 have hXA := hX9.put 4 (.string u)
 have hRA := hR9.far (p := ⟨w.heap.size + 1, 4, none⟩) (by simp) (.string u)
 have hgA : RdIs (w9.setCell ⟨w.heap.size + 1, 4, none⟩ (.string u)) g s6 b6 := za.far hg9 (p := ⟨w.heap.size + 1, 4, none⟩) (Ne.symm ne1) (.string u)
 have hO0A := hO09.setCell (p := ⟨w.heap.size + 1, 4, none⟩) (.inr (by simp)) (.string u)
 have a0 := hXA.cell 0
 have a1 := hXA.cell 1
 have a2 := hXA.cell 2
 have a3 := hXA.cell 3
 have a4 := hXA.cell 4
 have z0 := hRA.cell 0
 have z1 := hRA.cell 1
 have z2 := hRA.cell 2
 have z3 := hRA.cell 3
 have z4 := hRA.cell 4
 have y0 := hRA.frozen 0
 have y1 := hRA.frozen 1
 have y2 := hRA.frozen 2
 have y3 := hRA.frozen 3
 have y4 := hRA.frozen 4
 clear hX7 hR7 hg7 hO07 hX8 hR8 hg8 hO08 hX9 hR9 hg9 hO09
 go_wp2_with fail
 (try simp only [Exit.inBlock, Exit.then])
 refine bodyPost_ret (results_cell_row rfl _ _ w.heap.size 113 _ (0, 0) _ rfl (show za _ _ _ _ from ((((hRA.put 0 _).put 1 _).put 2 _).put 3 _).put 4 _) zqs rfl (by kernel_rfl)) rfl ?_
 have hgE := RdIs.blk5 hgA (h := w.heap.size) (Ne.symm ne0) (.int .i64 (x : Nat)) (.int .i64 (y : Nat)) (.int .i64 (v : Nat)) (.int .i64 (p : Nat)) (.string u)
 have hOE := z04 hO0A (h := w.heap.size) (.inr (Nat.le_refl _)) (.int .i64 (x : Nat)) (.int .i64 (y : Nat)) (.int .i64 (v : Nat)) (.int .i64 (p : Nat)) (.string u)
 refine ⟨⟨(x : Nat), (y : Nat), (v : Nat), (p : Nat), u⟩, s6, b6, rfl, hgE, hOE, ?_⟩
 rw [HVE.out]
 exact z7c r1 r2 r3 r4 r5 r6
end Go.Proofs.YtgpbpgpolpakjaaGreatDoor
