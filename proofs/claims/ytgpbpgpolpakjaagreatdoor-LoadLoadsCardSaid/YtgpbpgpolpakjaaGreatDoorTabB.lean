/- Proof text. -/
import Derived.Test.YtgpbpgpolpakjaaGreatDoorTabP
import Derived.Test.YtgpbpgpolpakjaaGreatDoorSplitP
import Derived.Test.YtgpbpgpolpakjaaGreatDoorSemiX
import Derived.Test.YtgpbpgpolpakjaaGreatDoorRefQ
set_option linter.unusedVariables false
set_option linter.unusedSimpArgs false
namespace Go.Proofs.YtgpbpgpolpakjaaGreatDoor
open Go.RowKit Go.Shelf L
def L.idxOf (s : ByteArray) (r : RecN) : ByteArray := if r.v = 1 then idxS (sub_ (nb s) r.a r.b) else ⟨#[]⟩
def L.recE (s : ByteArray) (r : RecN) : EntI := ⟨(r.a : Nat), (r.b : Nat), (r.v : Nat), (r.p : Nat), idxOf s r⟩
def L.tblS (s : ByteArray) (deep : Nat) : TabN := ⟨(deep : Nat), (s.size : Nat), (recs (nb s) deep).map (recE s)⟩
theorem L.z08 (l : List Nat) : ∀ f a, (spn l f a).Pairwise (fun p q => p.2 ≤ q.1)
 | 0, a => List.Pairwise.nil
 | f + 1, a => by
   unfold spn
   split
   ·refine List.Pairwise.cons (fun q hq => ?_) (z08 l f _)
    have := (zt6 l f (nlx l a + 1) q hq).1
    dsimp only; omega
   ·exact List.Pairwise.nil
theorem L.z4d (l : List Nat) : (spans l).Pairwise (fun p q => p.2 ≤ q.1) := z08 l _ _
theorem L.zda (l : List Nat) (deep : Nat) : (recs l deep).length = (spans l).length := by unfold recs; rw [List.length_map]
theorem L.ze5 (l : List Nat) (deep : Nat) : (recs l deep).length ≤ l.length := by rw [zda]; exact zfo l
theorem L.z7h {l : List Nat} (deep : Nat) (hl : l.length ≤ 65536) : 1 ≤ (verd l deep).1 ∧ (verd l deep).1 ≤ 4 ∧ (verd l deep).2 ≤ 65536 := by
 have h1 := z6r l
 have h2 := (zru l L.start 0).2
 unfold verd
 split
 ·omega
 ·split
  ·split
   ·dsimp only; omega
   ·dsimp only; omega
  ·dsimp only; omega
theorem L.z09 {l : List Nat} {deep : Nat} (h : (verd l deep).1 = 1) (hd : deep ≤ 4096) : zd2 l = 0 := by
 unfold verd at h
 split at h
 ·cases h
 ·split at h
  ·split at h
   ·cases h
   ·rename_i h1 h2 h3
    exact z0a ⟨h2.1, h2.2, by omega⟩ (by omega)
  ·cases h
theorem L.zyi (l : List Nat) (a b : Nat) (h : b ≤ l.length) : (sub_ l a b).length = b - a := by unfold sub_; rw [List.length_take, List.length_drop]; omega
theorem L.zt9 {l : List Nat} (h : l.length ≤ 4096) : (idxS l).size ≤ 140000 := by
 have hm : (places l).length ≤ l.length := by rw [zah]; exact zbg l
 have hr := zb5 (l := l) (by omega)
 have hb := zwt l
 have hbl : bndN l ≤ 4096 := by unfold bndN; split <;> omega
 have hlen := zeu (wd (places l).length (bndN l)) (top (places l) (bndN l)) (places l) (bndN l) (hr.up _) (Nat.le_trans (hr.last _) (Nat.le_succ _))
 have h2 : (places l).length * wd (places l).length (bndN l) ≤ 4096 := by
  rcases Nat.eq_zero_or_pos (places l).length with h0 | h0
  ·rw [h0, Nat.zero_mul]; omega
  ·exact Nat.le_trans (z8n _ _ h0 hb (by omega)) hbl
 have h3 : (bndN l - 1) / 2 ^ wd (places l).length (bndN l) ≤ bndN l - 1 := Nat.div_le_self _ _
 have h4 : top (places l) (bndN l) = (bndN l - 1) / 2 ^ wd (places l).length (bndN l) + 1 := rfl
 have e1 : (seqS l).size = (zy (seqB (wd (places l).length (bndN l)) (top (places l) (bndN l)) (places l) (bndN l))).length := rfl
 have hp : (zl l).length = 2 * (places l).length := by rw [zbz, zah]
 have e2 : (idxS l).size = 8 + (seqS l).size + (zy (zl l)).length := by
  unfold idxS
  rw [ByteArray.size_append, ByteArray.size_append]
  have : ∀ x : List UInt8, (ByteArray.mk x.toArray).size = x.length := fun x => by show x.toArray.size = _; exact List.size_toArray
  rw [this (leB (seqS l).size 8), this (zy (zl l)), ze]
 rw [e2, e1, zdo, zdo, hlen, h4, hp]
 unfold zh
 omega
theorem L.zhf {s : ByteArray} {deep : Nat} {r : RecN} (h : r ∈ recs (nb s) deep) (hs : s.size ≤ 4096) : r.a ≤ r.b ∧ r.b ≤ s.size ∧ 1 ≤ r.v ∧ r.v ≤ 4 ∧ r.p ≤ 65536 ∧ (r.v = 1 → deep ≤ 4096 → zd2 (sub_ (nb s) r.a r.b) = 0) ∧ (sub_ (nb s) r.a r.b).length ≤ s.size := by
 unfold recs at h
 obtain ⟨q, hq, rfl⟩ := List.mem_map.1 h
 have h1 := zmw hq
 rw [zf] at h1
 have h2 := zyi (nb s) q.1 q.2 (by rw [zf]; omega)
 have h3 := z7h (l := sub_ (nb s) q.1 q.2) deep (by omega)
 exact ⟨h1.1, h1.2, h3.1, h3.2.1, h3.2.2, fun hv hd => z09 hv hd, by show (sub_ (nb s) q.1 q.2).length ≤ _; omega⟩
theorem L.zqv (s : ByteArray) (deep : Nat) (hs : s.size ≤ 4096) (h1 : 1 ≤ deep) (h2 : deep ≤ 4096) : zae (tblS s deep) := by
 have hlen : (tblS s deep).es.length = (recs (nb s) deep).length := by unfold tblS; rw [List.length_map]
 have hf := ze5 (nb s) deep
 rw [zf] at hf
 refine ⟨by show (1 : Int) ≤ (deep : Int); omega, by show (deep : Int) ≤ 4096; omega, by show (0 : Int) ≤ (s.size : Int); omega, by show (s.size : Int) ≤ 1048576; omega, by omega, fun j hj => ?_⟩
 have hj' : j < (recs (nb s) deep).length := by omega
 have e : (tblS s deep).es[j] = recE s (recs (nb s) deep)[j] := by
  have : (tblS s deep).es = (recs (nb s) deep).map (recE s) := rfl
  rw [List.getElem_of_eq this, List.getElem_map]
 have hr := zhf (List.getElem_mem hj') hs
 rw [e]
 have hp : zbv (tblS s deep).es j ≤ ((recs (nb s) deep)[j].a : Int) ∧ 0 ≤ ((recs (nb s) deep)[j].a : Int) := by
  refine ⟨?_, by omega⟩
  cases j with
  | zero => rw [zye]; omega
  | succ i =>
    rw [zjc _ _ (by omega)]
    have e2 : (tblS s deep).es[i]'(by omega) = recE s ((recs (nb s) deep)[i]'(by omega)) := by
     have : (tblS s deep).es = (recs (nb s) deep).map (recE s) := rfl
     rw [List.getElem_of_eq this, List.getElem_map]
    rw [e2]
    have hu := List.pairwise_iff_getElem.1 (z4d (nb s)) i (i + 1) (by rw [← zda _ deep]; omega) (by rw [← zda _ deep]; omega) (by omega)
    have ea : (recs (nb s) deep)[i + 1].a = ((spans (nb s))[i + 1]'(by rw [← zda _ deep]; omega)).1 := by
     have : recs (nb s) deep = (spans (nb s)).map (recN (nb s) deep) := rfl
     rw [List.getElem_of_eq this, List.getElem_map]; rfl
    have eb : ((recs (nb s) deep)[i]'(by omega)).b = ((spans (nb s))[i]'(by rw [← zda _ deep]; omega)).2 := by
     have : recs (nb s) deep = (spans (nb s)).map (recN (nb s) deep) := rfl
     rw [List.getElem_of_eq this, List.getElem_map]; rfl
    show (((recs (nb s) deep)[i]'(by omega)).b : Int) ≤ _
    rw [ea, eb]; omega
 obtain ⟨r1, r2, r3, r4, r5, r6, r7⟩ := hr
 generalize (recs (nb s) deep)[j] = r at *
 refine ⟨hp.2, hp.1, by show (r.a : Int) ≤ (r.b : Int); omega, by show (r.b : Int) ≤ (s.size : Int); omega, by show (1 : Int) ≤ (r.v : Int); omega, by show (r.v : Int) ≤ 4; omega, by show (0 : Int) ≤ (r.p : Int); omega, by show (r.p : Int) ≤ 65536; omega, ?_, ?_⟩
 ·show (idxOf s r).size ≤ 1048576
  unfold idxOf
  split
  ·have := zt9 (l := sub_ (nb s) r.a r.b) (by omega); omega
  ·decide
 ·show (r.v : Int) = 1 ∨ (idxOf s r).size = 0
  by_cases hv : r.v = 1
  ·left; omega
  ·right; unfold idxOf; rw [if_neg hv]; rfl
end Go.Proofs.YtgpbpgpolpakjaaGreatDoor
