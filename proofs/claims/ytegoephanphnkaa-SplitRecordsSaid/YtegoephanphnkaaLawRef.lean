/- Plain laws: a value, a member, what stands in brackets, in the automaton's words. No program in sight. -/
import Derived.Test.YtegoephanphnkaaAutoD
import Derived.Test.YtegoephanphnkaaScanG
import Derived.Test.YtegoephanphnkaaScanH
import Derived.Test.YtegoephanphnkaaScanJ
set_option linter.unusedVariables false
set_option linter.unusedSimpArgs false
namespace Go.Proofs.Ytegoephanphnkaa
open L

def VAL (l : List Nat) (k : Nat) (ok : Bool) (k' d : Nat) : Prop := ∀ st m, st.length ≤ m → Goes l (Q 0 st m) k ok (Q 5 st (max m (st.length + d))) k'
def ITEM (l : List Nat) (t : Bool) (k : Nat) (ok : Bool) (k' d : Nat) : Prop := ∀ st m, st.length ≤ m → Goes l (Q (if t then 3 else 0) st m) k ok (Q 5 st (max m (st.length + d))) k'
def MANY (l : List Nat) (t : Bool) (k : Nat) (ok : Bool) (k' d : Nat) : Prop := ∀ st m, st.length + 1 ≤ m → Goes l (Q (if t then 2 else 1) (t :: st) m) k ok (Q 5 st (max m (st.length + d))) k'
def INM (l : List Nat) (t : Bool) (k p d : Nat) : Prop := ∀ st m, st.length + 1 ≤ m → R l (Q (if t then 2 else 1) (t :: st) m) k (Q (if t then 3 else 0) (t :: st) (max m (st.length + 1 + d))) p
def BEH (l : List Nat) (t : Bool) (k p d : Nat) : Prop := ∀ st m, st.length + 1 ≤ m → R l (Q (if t then 2 else 1) (t :: st) m) k (Q 5 (t :: st) (max m (st.length + 1 + d))) p
def endB (t : Bool) : Nat := if t then 125 else 93

section
variable {l : List Nat} {t ok : Bool} {k k1 k' p p' p2 d d' dd : Nat}
theorem Goes.to_ {q q' q'' : St} (h : Goes l q k ok q' k') (e : q' = q'') : Goes l q k ok q'' k' := e ▸ h
theorem Goes.any {q q' : St} (q'' : St) (h : Goes l q k false q' k') : Goes l q k false q'' k' := by
  rcases h with ⟨e, _⟩ | h
  · cases e
  · exact Or.inr h
theorem val_num (h : Num l k ok k') : VAL l k ok k' 0 := fun st m hm => by
  have := h (Q 0 st m)
  refine Goes.to_ this ?_
  show Q 5 st m = _
  rw [Nat.add_zero, Nat.max_eq_left hm]
theorem val_blk (hb : Blk l k k1) (h : VAL l k1 ok k' d) : VAL l k ok k' d := fun st m hm => Goes.pre (blanks_R (by omega) st m hb.1 hb.2.1 hb.2.2.1) (h st m hm)
theorem val_end (hk : k = l.length) : VAL l k false k d := fun st m hm => Goes.fail _ (R.refl (by omega)) (dead_of (by omega) (fun h => by omega) (Bool.and_false _))
theorem val_many (hc : at_ l k = if t then 123 else 91) (h : MANY l t (k + 1) ok k' d) (hd : ok = true → 0 < d) : VAL l k ok k' d := fun st m hm => by
  have h1 : R l (Q 0 st m) k (Q (if t then 2 else 1) (t :: st) (max m (st.length + 1))) (k + 1) := by
    cases t
    · exact open_arr hc
    · exact open_obj hc
  have h2 := Goes.pre h1 (h st (max m (st.length + 1)) (by omega))
  cases ok
  · exact Goes.any _ h2
  · refine Goes.to_ h2 ?_
    have := hd rfl
    rw [show max (max m (st.length + 1)) (st.length + d) = max m (st.length + d) from by omega]
theorem val_le (h : VAL l k ok k' d) : k ≤ k' := ((h [] 0 (Nat.le_refl _)).le).1
theorem item_val (h : VAL l k ok k' d) : ITEM l false k ok k' d := h
/-- A key, and what stands behind it. -/
def KEY (l : List Nat) (k : Nat) (ok : Bool) (k' : Nat) : Prop := ∀ st m, Goes l (Q 3 st m) k ok (Q 4 st m) k'
def COL (l : List Nat) (k : Nat) (ok : Bool) (k' : Nat) : Prop := ∀ st m, Goes l (Q 3 st m) k ok (Q 0 st m) k'
theorem key_str (hb : Blk l k k1) (h : (at_ l k1 ≠ 34 ∧ ok = false ∧ k' = k1) ∨ (at_ l k1 = 34 ∧ Strg l (k1 + 1) ok k')) : KEY l k ok k' := fun st m => by
  refine Goes.pre (blanks_R (by omega) st m hb.1 hb.2.1 hb.2.2.1) ?_
  rcases h with ⟨h1, rfl, rfl⟩ | ⟨h1, h2⟩
  · exact Goes.fail _ (R.refl hb.2.1) (key_dead hb.2.1 hb.nb h1)
  · exact Goes.pre (key_open h1) (h2 (Q 3 st m) true)
theorem key_col (h : KEY l k true p) (hb : Blk l p k1) (h2 : Tk l [58] k1 k' ok) : COL l k ok k' := fun st m => by
  have h1 : R l (Q 3 st m) k (Q 4 st m) p := by
    rcases h st m with ⟨_, r⟩ | ⟨e, _⟩
    · exact r
    · cases e
  refine Goes.pre (h1.trans (blanks_R (by omega) st m hb.1 hb.2.1 hb.2.2.1)) ?_
  rcases tk_one h2 with ⟨rfl, rfl, h3⟩ | ⟨rfl, rfl, h3⟩
  · exact Goes.done (colon_R h3)
  · exact Goes.fail _ (R.refl hb.2.1) (colon_dead hb.2.1 hb.nb h3)
theorem item_key (h : KEY l k false k') : ITEM l true k false k' d := fun st m hm => Goes.any _ (h st m)
theorem item_col (h : COL l k false k') : ITEM l true k false k' d := fun st m hm => Goes.any _ (h st m)
theorem item_member (h : COL l k true p) (hv : VAL l p ok k' d) : ITEM l true k ok k' d := fun st m hm => by
  have h1 : R l (Q 3 st m) k (Q 0 st m) p := by
    rcases h st m with ⟨_, r⟩ | ⟨e, _⟩
    · exact r
    · cases e
  exact Goes.pre h1 (hv st m hm)

theorem first_R (hb : Blk l k k1) (st : List Bool) (m : Nat) : R l (Q (if t then 2 else 1) (t :: st) m) k (Q (if t then 2 else 1) (t :: st) m) k1 := blanks_R (by cases t <;> simp) _ m hb.1 hb.2.1 hb.2.2.1
theorem many_empty (hb : Blk l k k1) (he : at_ l k1 = endB t) : MANY l t k true (k1 + 1) 1 := fun st m hm => by
  rw [Nat.max_eq_left hm]
  refine Goes.done ((first_R hb st m).step (at_ne (by rw [he]; cases t <;> decide)) ?_)
  cases t
  · exact close_first false he
  · exact close_firstk true he
theorem many_first (hb : Blk l k k1) (he : at_ l k1 ≠ endB t) : INM l t k k1 0 := fun st m hm => by
  rw [Nat.add_zero, Nat.max_eq_left hm]
  cases t
  · exact (first_R hb st m).like (like_first hb.nb he)
  · exact (first_R hb st m).like (like_firstk hb.nb he)
theorem many_item (h : INM l t k p d) (hi : ITEM l t p true p' d') (hb : Blk l p' p2) : BEH l t k p2 (max d d') := fun st m hm => by
  have h1 := hi (t :: st) (max m (st.length + 1 + d)) (by rw [List.length_cons]; omega)
  have h2 : R l (Q (if t then 3 else 0) (t :: st) (max m (st.length + 1 + d))) p (Q 5 (t :: st) (max (max m (st.length + 1 + d)) ((t :: st).length + d'))) p' := by
    rcases h1 with ⟨_, r⟩ | ⟨e, _⟩
    · exact r
    · cases e
  have h3 := ((h st m hm).trans h2).trans (blanks_R (M := 5) (by omega) (t :: st) _ hb.1 hb.2.1 hb.2.2.1)
  rw [List.length_cons, show max (max m (st.length + 1 + d)) (st.length + 1 + d') = max m (st.length + 1 + max d d') from by omega] at h3
  exact h3
theorem many_item_bad (h : INM l t k p d) (hi : ITEM l t p false p' d') : MANY l t k false p' dd := fun st m hm =>
  Goes.any _ (Goes.pre (h st m hm) (hi (t :: st) (max m (st.length + 1 + d)) (by rw [List.length_cons]; omega)))
theorem many_close (h : BEH l t k p d) (he : at_ l p = endB t) : MANY l t k true (p + 1) (d + 1) := fun st m hm => by
  have h1 := (h st m hm).step (at_ne (by rw [he]; cases t <;> decide)) (beh_close (t := t) (by cases t; exact Or.inl ⟨he, rfl⟩; exact Or.inr ⟨he, rfl⟩))
  rw [show st.length + 1 + d = st.length + (d + 1) from by omega] at h1
  exact Goes.done h1
theorem many_comma (h : BEH l t k p d) (hc : at_ l p = 44) : INM l t k (p + 1) d := fun st m hm => by
  refine (h st m hm).trans ?_
  cases t
  · exact beh_val hc
  · exact beh_key hc
theorem many_bad (h : BEH l t k p d) (hp : p ≤ l.length) (hb : L.blank (at_ l p) = false) (h1 : at_ l p ≠ 44) (h2 : at_ l p ≠ endB t) : MANY l t k false p dd := fun st m hm =>
  Goes.fail _ (h st m hm) (beh_dead hp hb h1 (by
    rintro (⟨e, rfl⟩ | ⟨e, rfl⟩)
    · exact h2 e
    · exact h2 e))
end

end Go.Proofs.Ytegoephanphnkaa
