/- Proof text. -/
import Derived.WalkKit
import Derived.Deep.QuietTactic
import Derived.BigQuiet
import Derived.ScopeJumps
import Derived.Test.YtgpbpgpolpakjaaGreatDoorRows
import Derived.Test.YtgpbpgpolpakjaaGreatDoorMaths
import Derived.WalkSpells
import Derived.WalkLawsBesides
import Derived.Below
import Derived.Laws.OwnMore
import Derived.Laws.Rows
import Derived.Deep.AppendLies
import Derived.Deep.Draws
import Derived.Maps.AppendAt
import Derived.OwnWalk
set_option maxHeartbeats 400000
set_option linter.unusedVariables false
set_option linter.unusedSimpArgs false
namespace Go.Proofs.YtgpbpgpolpakjaaGreatDoor
open Go.RowKit
theorem zcn {k : IntKind} {a b : Int} (h : a = b) : Ending.returned (.int k a) = .returned (.int k b) := by rw [h]
theorem zfb {a b : Bool} (h : a = b) : Ending.returned (.bool a) = .returned (.bool b) := by rw [h]
section
variable {P : Program} {f : FuncId} {args : Array Value} {w : World} {v : Value}
theorem zax {n : Nat} (h : Calls P f args (w.drewN n) fun e w' => e = .returned v ∧ w.drewN n = w') : Calls P f args (w.drewN n) fun e w'' => e = .returned v ∧ ∃ m, w'' = w.drewN m :=
 h.mono fun _ _ ⟨he, hw⟩ => ⟨he, n, hw.symm⟩
theorem zhn (w : World) : ∃ m, w = w.drewN m := ⟨0, rfl⟩
end
def Exit.jumps (J : Nat → Act → World → Prop) (Q : Exit → Act → World → Prop) : Exit → Act → World → Prop
 | .goto l, a, w => J l a w
 | e, a, w => Q e a w
section
variable {P : Program} {a : Act} {w : World} {Q : Exit → Act → World → Prop}
theorem zq3 {c : Code} (J : Nat → Act → World → Prop) (μ : Nat → Act → World → Nat) (hl : ∀ l a w, J l a w → ∃ rest, findLabel c l = some rest)
  (first : c.wp P (Exit.jumps J Q) a w)
  (pass : ∀ l rest, findLabel c l = some rest → ∀ a w, J l a w → rest.wp P (Exit.jumps (fun l' a' w' => J l' a' w' ∧ μ l' a' w' < μ l a w) Q) a w) : (Code.scope c).wp P Q a w := by
 intro b k cs
 have hg : ∀ l rest, findLabel c l = some rest → gotoIn l (.inScope c :: k) = some (.code rest :: .inScope c :: k) := fun l rest hf => by simp [gotoIn, hf]
 have key : ∀ n l rest, findLabel c l = some rest → ∀ a w, μ l a w = n → J l a w → ∃ e a' w', Q e a' w' ∧ Arrives P (lone (b.at a (.code rest :: .inScope c :: k)) cs w) b k cs e a' w' := by
  intro n
  induction n using Nat.strongRecOn with
  | _ n ih =>
    intro l rest hf a w hn hJ
    obtain ⟨e, a₁, w₁, hq, harr⟩ := pass l rest hf a w hJ b (.inScope c :: k) cs
    cases e with
    | normal => exact ⟨.normal, a₁, w₁, hq, Steps.trans harr (.one step_inScope)⟩
    | exit id => exact ⟨.exit id, a₁, w₁, hq, fun k' hk => harr k' (by simp [exitTo, hk])⟩
    | goto l' =>
      obtain ⟨hJ', hlt⟩ := hq
      obtain ⟨rest', hf'⟩ := hl l' a₁ w₁ hJ'
      obtain ⟨e₂, a₂, w₂, hq₂, harr₂⟩ := ih _ (by omega) l' rest' hf' a₁ w₁ rfl hJ'
      exact ⟨e₂, a₂, w₂, hq₂, .of_steps (harr _ (hg l' rest' hf')) harr₂⟩
    | ret => exact ⟨_, a₁, w₁, hq, harr⟩
    | panic ch => exact ⟨_, a₁, w₁, hq, harr⟩
    | outgrown => exact ⟨_, a₁, w₁, hq, harr⟩
 obtain ⟨e, a₁, w₁, hq, harr⟩ := first b (.inScope c :: k) cs
 cases e with
 | normal => exact ⟨.normal, a₁, w₁, hq, .head step_scope (Steps.trans harr (.one step_inScope))⟩
 | exit id => exact ⟨.exit id, a₁, w₁, hq, fun k' hk => .head step_scope (harr k' (by simp [exitTo, hk]))⟩
 | goto l' =>
   obtain ⟨rest', hf'⟩ := hl l' a₁ w₁ hq
   obtain ⟨e₂, a₂, w₂, hq₂, harr₂⟩ := key _ l' rest' hf' a₁ w₁ rfl hq
   exact ⟨e₂, a₂, w₂, hq₂, .of_steps (.head step_scope (harr _ (hg l' rest' hf'))) harr₂⟩
 | ret => exact ⟨_, a₁, w₁, hq, .of_steps (.one step_scope) harr⟩
 | panic ch => exact ⟨_, a₁, w₁, hq, .of_steps (.one step_scope) harr⟩
 | outgrown => exact ⟨_, a₁, w₁, hq, .of_steps (.one step_scope) harr⟩
@[go_sem] theorem Exit.jumps_ret {J : Nat → Act → World → Prop} : Exit.jumps J Q .ret a w = Q .ret a w := rfl
@[go_sem] theorem Exit.jumps_goto {J : Nat → Act → World → Prop} (l : Nat) : Exit.jumps J Q (.goto l) a w = J l a w := rfl
@[go_sem] theorem Exit.jumps_normal {J : Nat → Act → World → Prop} : Exit.jumps J Q .normal a w = Q .normal a w := rfl
end
section
variable {P : Program} {ops : Array Oper} {o : Oper} {a : Act} {w : World} {K : Act → World → Prop} {Q : Exit → Act → World → Prop} {E : Prop}
theorem zca (hgd : o.guard = none) (f : FuncId) (args : Array Value) (hx : (execOp a.eval o).run P w = .ok (.enter f args) w) (h : Calls P f args w fun e w' => ∃ v, e = .returned v ∧ K (a.put o.dst v) w') :
  if Region.wanted o (yielded ops a.tmps) = true then Oper.wp P o a w K Q else E := by
 have hw : Region.wanted o (yielded ops a.tmps) = true := by simp [Region.wanted, hgd]
 rw [if_pos hw]
 unfold Oper.wp
 rw [hx]
 exact h.mono (fun e w' ⟨v, he, hk⟩ => by subst he; exact hk)
end
open Go.RowKit
section
variable {P : Program} {a : Act} {w : World} {Q : Exit → Act → World → Prop}
theorem zq4 {c B : Code} (l : Nat) (J : Act → World → Prop) (μ : Act → World → Nat) (hf : findLabel c l = some (.seq .skip B))
  (pass : ∀ a w, J a w → B.wp P (Exit.jump l (fun a' w' => J a' w' ∧ μ a' w' < μ a w) Q) a w)
  (first : (∀ a w, J a w → B.wp P (Exit.jump l J Q) a w) → c.wp P (Exit.jump l J Q) a w) : (Code.scope c).wp P Q a w := by
 refine wp_scope_jumps l J μ hf (first fun a w h => ?_) (fun a w h => wp_seq (wp_skip (pass a w h)))
 refine wp_mono (pass a w h) (fun e a' w' he => ?_)
 cases e with
 | goto l' => exact ⟨he.1, he.2.1⟩
 | _ => exact he
theorem zid {c : Code} (J : Nat → Act → World → Prop) (μ : Nat → Act → World → Nat) (hl : ∀ l a w, J l a w → ∃ B, findLabel c l = some (.seq .skip B))
  (pass : ∀ l B, findLabel c l = some (.seq .skip B) → ∀ a w, J l a w →
   (∀ l' B', findLabel c l' = some (.seq .skip B') → ∀ a' w', J l' a' w' → μ l' a' w' < μ l a w → B'.wp P (Exit.jumps (fun l'' a'' w'' => J l'' a'' w'' ∧ μ l'' a'' w'' < μ l a w) Q) a' w') →
   B.wp P (Exit.jumps (fun l' a' w' => J l' a' w' ∧ μ l' a' w' < μ l a w) Q) a w)
  (first : (∀ l B, findLabel c l = some (.seq .skip B) → ∀ a w, J l a w → B.wp P (Exit.jumps J Q) a w) → c.wp P (Exit.jumps J Q) a w) : (Code.scope c).wp P Q a w := by
 have key : ∀ n l B, findLabel c l = some (.seq .skip B) → ∀ a w, μ l a w = n → J l a w → B.wp P (Exit.jumps (fun l' a' w' => J l' a' w' ∧ μ l' a' w' < μ l a w) Q) a w := by
  intro n
  induction n using Nat.strongRecOn with
  | _ n ih =>
    intro l B hB a w hn hJ
    refine pass l B hB a w hJ (fun l' B' hB' a' w' hJ' hlt => ?_)
    refine wp_mono (ih _ (by omega) l' B' hB' a' w' rfl hJ') (fun e a'' w'' he => ?_)
    cases e with
    | goto l'' => exact ⟨he.1, Nat.lt_trans he.2 hlt⟩
    | _ => exact he
 refine zq3 J μ (fun l a w h => by obtain ⟨B, hB⟩ := hl l a w h; exact ⟨_, hB⟩) ?_ ?_
 ·refine first (fun l B hB a w hJ => wp_mono (key _ l B hB a w rfl hJ) (fun e a' w' he => ?_))
  cases e with
  | goto l' => exact he.1
  | _ => exact he
 ·intro l rest hf a w hJ
  obtain ⟨B, hB⟩ := hl l a w hJ
  rw [hB] at hf
  obtain rfl := Option.some.inj hf
  exact wp_seq (wp_skip (key _ l B hB a w rfl hJ))
end
open Go.RowKit L
theorem zka (n : Int) (w : World) :
  Calls Tryz.prog 198 #[.int .i64 n] w fun e w' => e = .returned (.int .i64 (z8 n : Nat)) ∧ w = w' := by
 go_enter Tryz.func198, Tryz.ntmps198
 go_wp2
 all_goals
  go_ret
  exact ⟨zcn (by unfold z8; first | omega | (split at * <;> omega)), rfl⟩
theorem zgr (x : Nat) (w : World) (hx : x < 18446744073709551616) :
  Calls Tryz.prog 197 #[.int .u64 (x : Int)] w fun e w' => e = .returned (.int .i64 (zi x 64 : Nat)) ∧ w = w' := by
 obtain ⟨p1, p2, p3, p4⟩ := z1i x hx
 have q1 : IntKind.u64.wrap (bits BinOp.and IntKind.u64 ((x : Int) / 2) 6148914691236517205 + bits BinOp.and IntKind.u64 (x : Int) 6148914691236517205) = ((pop1 x : Nat) : Int) := zj4 x 2 6148914691236517205 hx (by omega) p1
 have q2 : IntKind.u64.wrap (bits BinOp.and IntKind.u64 ((pop1 x : Nat) / 4 : Int) 3689348814741910323 + bits BinOp.and IntKind.u64 (pop1 x : Nat) 3689348814741910323) = ((pop2 (pop1 x) : Nat) : Int) := zj4 (pop1 x) 4 3689348814741910323 p1 (by omega) (by unfold pop2 at p2; omega)
 have q3 : bits BinOp.and IntKind.u64 (((pop2 (pop1 x) : Nat) : Int) / 16 + (pop2 (pop1 x) : Nat)) 1085102592571150095 = ((pop3 (pop2 (pop1 x)) : Nat) : Int) := by
  have e : (((pop2 (pop1 x) : Nat) : Int) / 16 + (pop2 (pop1 x) : Nat)) = (((pop2 (pop1 x)) / 16 + pop2 (pop1 x) : Nat) : Int) := by omega
  rw [e]; exact u64_and_nat _ 1085102592571150095 (by omega) (by omega)
 have Q1 := L.hid q1
 generalize pop1 x = y1 at *
 generalize pop2 y1 = y2 at *
 generalize pop3 y2 = y3 at *
 clear q1 p1
 have p4' : ((y3 + y3 / 256 + (y3 + y3 / 256) / 65536) + (y3 + y3 / 256 + (y3 + y3 / 256) / 65536) / 4294967296) % 128 = zi x 64 := p4
 have P4 := L.hid p4'
 clear p4 p4'
 have b1 : y3 + y3 / 256 < 4629771061636907072 := by omega
 have b2 : y3 + y3 / 256 + (y3 + y3 / 256) / 65536 < 4630000000000000000 := by omega
 have b3 : (y3 + y3 / 256 + (y3 + y3 / 256) / 65536) + (y3 + y3 / 256 + (y3 + y3 / 256) / 65536) / 4294967296 < 4640000000000000000 := by omega
 have q1 := Q1.out
 go_enter Tryz.func197, Tryz.ntmps197
 go_wp2
 go_ret
 refine ⟨zcn ?_, rfl⟩
 rw [← P4.out]
 have e := z1j _ (show y3 + y3 / 256 + (y3 + y3 / 256) / 65536 + (y3 + y3 / 256 + (y3 + y3 / 256) / 65536) / 4294967296 < 9223372036854775808 by omega)
 exact e
theorem zmk (k : Int) (w : World) (hk : 0 ≤ k) :
  Calls Tryz.prog 165 #[.int .i64 k] w fun e w' => e = .returned (.int .u64 ((2 ^ z8 k - 1 : Nat) : Int)) ∧ w = w' := by
 rcases Int.lt_or_le k 64 with h | h
 ·go_enter Tryz.func165, Tryz.ntmps165
  go_wp2
  go_ret
  exact ⟨zcn (z5a k hk h), rfl⟩
 ·go_enter Tryz.func165, Tryz.ntmps165
  go_wp2
  go_ret
  exact ⟨zcn (z5b k h), rfl⟩
theorem zft (x : Nat) (n : Int) (w : World) (hx : x < 18446744073709551616) :
  Calls Tryz.prog 171 #[.int .u64 (x : Int), .int .i64 n] w fun e w' => e = .returned (.int .i64 (zi x (z8 n) : Nat)) ∧ w = w' := by
 have H := hid (z1k x n hx)
 go_enter Tryz.func171, Tryz.ntmps171
 go_wp2_with (first
  | (go_at_call 198; refine (zka _ _).mono ?_; rintro e w' ⟨rfl, rfl⟩)
  | (go_at_call 165; refine (zmk _ _ (by omega)).mono ?_; rintro e w' ⟨rfl, rfl⟩)
  | (go_at_call 197; rw [H.out.1]; refine (zgr _ _ H.out.2.1).mono ?_; rintro e w' ⟨rfl, rfl⟩))
 go_ret
 exact ⟨zcn (by rw [H.out.2.2]), rfl⟩
theorem zeb (x : Nat) (p n : Int) (w : World) (hx : x < 18446744073709551616) :
  Calls Tryz.prog 131 #[.int .u64 (x : Int), .int .i64 p, .int .i64 n] w fun e w' => e = .returned (.int .u64 (zay x p n : Nat)) ∧ ∃ m, w' = w.drewN m := by
 by_cases h1 : n < 1 ∨ 64 ≤ p ∨ p ≤ -64
 ·have e : zay x p n = 0 := by unfold zay; rw [if_pos h1]
  rw [e]
  rcases Int.lt_or_le n 1 with a1 | a1
  ·go_enter Tryz.func131, Tryz.ntmps131
   go_wp2
   go_ret
   exact ⟨rfl, zhn _⟩
  ·rcases Int.lt_or_le p 64 with a2 | a2
   ·go_enter Tryz.func131, Tryz.ntmps131
    go_wp2
    go_ret
    exact ⟨rfl, zhn _⟩
   ·go_enter Tryz.func131, Tryz.ntmps131
    go_wp2
    go_ret
    exact ⟨rfl, zhn _⟩
 ·rcases Int.lt_or_le p 0 with a2 | a2
  ·have H := hid (zyy x p n hx h1 a2)
   have b1 : 1 ≤ n := by omega
   have b2 : -64 < p := by omega
   clear h1
   go_enter Tryz.func131, Tryz.ntmps131
   go_wp2
   go_quiet ((go_at_call 165; exact zax (zmk _ _ (by omega))))
   go_wp2
   go_ret
   exact ⟨zcn H.out, _, rfl⟩
  ·have H := hid (zyz x p n hx h1 a2)
   have b1 : 1 ≤ n := by omega
   have b2 : p < 64 := by omega
   clear h1
   go_enter Tryz.func131, Tryz.ntmps131
   go_wp2
   go_quiet ((go_at_call 165; exact zax (zmk _ _ (by omega))))
   go_wp2
   go_ret
   exact ⟨zcn H.out, _, rfl⟩
theorem zec (a : Addr) (n : Nat) : (a.add n).block = a.block := by unfold Addr.add; split <;> rfl
theorem zdk (g j : Nat) : (⟨g, 0, none⟩ : Addr).add j = ⟨g, j, none⟩ := by unfold Addr.add; split <;> simp_all
structure Only (S : Nat → Prop) (w w' : World) : Prop where
 os : w'.os = w.os
 tape : w'.tape = w.tape
 output : w'.output = w.output
 size : w.heap.size ≤ w'.heap.size
 block : ∀ k, k < w.heap.size → ¬ S k → w'.heap[k]? = w.heap[k]?
section
variable {S T : Nat → Prop} {a w w' : World} {B : Nat}
theorem Only.refl (S : Nat → Prop) (w : World) : Only S w w := ⟨rfl, rfl, rfl, Nat.le_refl _, fun _ _ _ => rfl⟩
theorem Only.trans (h : Only S a w) (k : Only T w w') (hT : ∀ i, i < a.heap.size → T i → S i) : Only S a w' :=
 ⟨k.os.trans h.os, k.tape.trans h.tape, k.output.trans h.output, Nat.le_trans h.size k.size,
  fun i hi hn => (k.block i (Nat.lt_of_lt_of_le hi h.size) (fun ht => hn (hT i hi ht))).trans (h.block i hi hn)⟩
theorem Only.mono (h : Only S a w) (hS : ∀ i, i < a.heap.size → S i → T i) : Only T a w :=
 ⟨h.os, h.tape, h.output, h.size, fun i hi hn => h.block i hi (fun hs => hn (hS i hi hs))⟩
theorem Only.drew (h : Only S a w) : Only S a w.drew := ⟨h.os, h.tape, h.output, h.size, h.block⟩
theorem Only.drewN (h : Only S a w) (n : Nat) : Only S a (w.drewN n) := ⟨h.os, h.tape, h.output, h.size, h.block⟩
theorem Only.alloc (h : Only S a w) (o : Obj) : Only S a (w.alloc o) :=
 ⟨h.os, h.tape, h.output, Nat.le_trans h.size (by simp), fun i hi hn => (Below.heap_alloc w o i (Nat.lt_of_lt_of_le hi h.size)).trans (h.block i hi hn)⟩
theorem Only.setCell (h : Only S a w) {p : Addr} (hp : S p.block ∨ a.heap.size ≤ p.block) (u : Value) : Only S a (w.setCell p u) :=
 ⟨h.os, h.tape, h.output, by simpa [World.setCell] using h.size, fun i hi hn => (Below.heap_setCell w p u i (by
  rintro rfl
  rcases hp with hp | hp
  ·exact hn hp
  ·omega)).trans (h.block i hi hn)⟩
theorem Only.below (h : Only S a w) (hS : ∀ i, S i → B ≤ i) (hB : B ≤ a.heap.size) : Below B a w :=
 ⟨h.os, h.tape, h.output, h.size, fun i hi => h.block i (by omega) (fun hs => by have := hS i hs; omega)⟩
theorem Only.of_below (h : Below a.heap.size a w) : Only S a w := ⟨h.os, h.tape, h.output, h.size, fun i hi _ => h.block i hi⟩
theorem Only.of_grown {row : Option Nat} (h : a.grownBy w row) : Only (fun i => some i = row) a w := ⟨h.os, h.tape, h.output, h.size, h.block⟩
end
theorem below_drewN {B : Nat} {a w : World} (h : Below B a w) (n : Nat) : Below B a (w.drewN n) := ⟨h.os, h.tape, h.output, h.size, h.block⟩
def Lst (w : World) (A : Option Addr) (xs : List Value) : Prop := ∀ i u, xs[i]? = some u → ∃ ad, A = some ad ∧ w.cell? (ad.add i) = some u
section
variable {w w' : World} {A : Option Addr} {xs : List Value}
theorem Lst.nil_ (w : World) (A : Option Addr) : Lst w A [] := fun i u h => by simp at h
theorem Lst.addr {ad : Addr} (h : Lst w (some ad) xs) {i : Nat} {u : Value} (hi : xs[i]? = some u) : w.cell? (ad.add i) = some u := by
 obtain ⟨ad', e, hc⟩ := h i u hi
 injection e with e
 rw [e]; exact hc
theorem Lst.kept (h : Lst w A xs) (hk : ∀ ad, A = some ad → ad.block < w.heap.size → w'.heap[ad.block]? = w.heap[ad.block]?) : Lst w' A xs := fun i u hi => by
 obtain ⟨ad, e, hc⟩ := h i u hi
 have hb := World.block_lt_of_cell? w _ hc
 rw [zec] at hb
 refine ⟨ad, e, (World.cell?_of_block ?_).trans hc⟩
 rw [zec]
 exact hk ad e hb
theorem Lst.below (h : Lst w A xs) (hb : Below w.heap.size w w') : Lst w' A xs := h.kept fun ad _ hl => hb.block ad.block hl
theorem Lst.only {S : Nat → Prop} (h : Lst w A xs) (hb : Only S w w') (hS : ∀ ad, A = some ad → ¬ S ad.block) : Lst w' A xs := h.kept fun ad e hl => hb.block ad.block hl (hS ad e)
theorem Lst.alloc (h : Lst w A xs) (o : Obj) : Lst (w.alloc o) A xs := h.kept fun ad _ hl => Below.heap_alloc w o _ hl
theorem Lst.setCell (h : Lst w A xs) {p : Addr} (hp : ∀ ad, A = some ad → ad.block ≠ p.block) (u : Value) : Lst (w.setCell p u) A xs := h.kept fun ad e hl => Below.heap_setCell w p u _ (hp ad e)
theorem Lst.of_own {base n c : Nat} {e : TypeId} {size : Nat} (h : w.ownsRow base e size (.slice A n c) n xs) (hs : 0 < size) : Lst w A xs := fun i u hi => by
 have hl := h.1
 have hi' : i < xs.length := (List.getElem?_eq_some_iff.1 hi).1
 have hn : 0 < n := by
  rcases Nat.eq_zero_or_pos n with h0 | h0
  ·subst h0; simp at hl; simp [hl] at hi
  ·exact h0
 obtain ⟨g, cap, hv, _, hlt⟩ := h.form hn
 have hA : A = some ⟨g, 0, none⟩ := by injection hv
 subst hA
 exact ⟨_, rfl, h.cells (g := g) rfl i u hi⟩
end
def za (w : World) (g : Nat) (t : TypeId) (cs : Array Value) : Prop := w.heap[g]? = some (.cells cs t (0, 0))
section
variable {w w' : World} {g : Nat} {t : TypeId} {cs : Array Value}
theorem za.lt (h : za w g t cs) : g < w.heap.size := (Array.getElem?_eq_some_iff.1 h).1
theorem za.cell (h : za w g t cs) (i : Nat) : w.cell? ⟨g, i, none⟩ = cs[i]? := cell_of_row w g i cs t (0, 0) h
theorem za.frozen (h : za w g t cs) (i : Nat) : w.frozen? ⟨g, i, none⟩ = false := by
 have h' : w.heap[g]? = _ := h
 simp [World.frozen?, h']
theorem za.new (w : World) (t : TypeId) (cs : Array Value) : za (w.alloc (.cells cs t)) w.heap.size t cs := heap_alloc_new w _
theorem za.drewN (h : za w g t cs) (n : Nat) : za (w.drewN n) g t cs := h
theorem za.kept (h : za w g t cs) (hk : w'.heap[g]? = w.heap[g]?) : za w' g t cs := hk.trans h
theorem za.alloc (h : za w g t cs) (o : Obj) : za (w.alloc o) g t cs := h.kept (Below.heap_alloc w o g h.lt)
theorem za.put (h : za w g t cs) (i : Nat) (u : Value) : za (w.setCell ⟨g, i, none⟩ u) g t (cs.setIfInBounds i u) := by
 have h' : w.heap[g]? = _ := h
 show (w.setCell _ u).heap[g]? = _
 simp [World.setCell, Array.getElem?_modify, h']
theorem za.far (h : za w g t cs) {p : Addr} (hp : g ≠ p.block) (u : Value) : za (w.setCell p u) g t cs := h.kept (Below.heap_setCell w p u g hp)
theorem za.below (h : za w g t cs) (hb : Below w.heap.size w w') : za w' g t cs := h.kept (hb.block g h.lt)
theorem za.only {S : Nat → Prop} (h : za w g t cs) (hb : Only S w w') (hg : ¬ S g) : za w' g t cs := h.kept (hb.block g h.lt hg)
theorem za.ne_ {g' : Nat} {t' : TypeId} {cs' : Array Value} (h : za w g t cs) (h' : za w g' t' cs') (hne : t ≠ t') : g ≠ g' := fun e => by
 have h1 : w.heap[g]? = _ := h
 have h2 : w.heap[g']? = _ := h'
 rw [← e, h1] at h2
 simp only [Option.some.injEq, Obj.cells.injEq] at h2
 exact hne h2.2.1
theorem za.ne_own {base : Nat} {e : TypeId} {size n : Nat} {v : Value} {xs : List Value} (hg : za w g t cs) (h : w.ownsRow base e size v n xs) (hne : e ≠ t) : v.ownBlock ≠ some g := fun he => by
 rcases h.2 with ⟨rfl, _⟩ | ⟨g', cap, cur, rfl, _, hh, _⟩
 ·simp [Value.ownBlock] at he
 ·have e2 : g' = g := by simpa [Value.ownBlock] using he
  exact za.ne_ (t := e) (g := g') hh hg hne e2
end
theorem zac {w w' : World} {base : Nat} {e : TypeId} {size n : Nat} {v : Value} {xs : List Value} {S : Nat → Prop} (h : w.ownsRow base e size v n xs) (hb : Only S w w') (hS : ∀ k, v.ownBlock = some k → ¬ S k) :
  w'.ownsRow base e size v n xs := by
 refine ⟨h.1, ?_⟩
 rcases h.2 with hn | ⟨g, cap, cur, rfl, hg, hh, rest⟩
 ·exact .inl hn
 ·exact .inr ⟨g, cap, cur, rfl, hg, (hb.block g (Array.getElem?_eq_some_iff.1 hh).1 (hS g rfl)).trans hh, rest⟩
theorem zam {w : World} {base : Nat} {e : TypeId} {size n : Nat} {v : Value} {xs : List Value} (h : w.ownsRow base e size v n xs) : ∃ A c, v = .slice A n c := by
 rcases h.2 with ⟨rfl, rfl⟩ | ⟨g, cap, cur, rfl, _⟩
 ·exact ⟨_, _, rfl⟩
 ·exact ⟨_, _, rfl⟩
theorem zbw {w : World} {base : Nat} {e : TypeId} {A : Option Addr} {n c : Nat} {xs : List Value} (h : w.ownsRow base e 1 (.slice A n c) n xs) : Lst w A xs := Lst.of_own h (by omega)
theorem z1u {w : World} {base : Nat} {e : TypeId} {A : Option Addr} {n c : Nat} {xs : List Value} (h : w.ownsRow base e 1 (.slice A n c) n xs) : ∀ ad, A = some ad → base ≤ ad.block := by
 rintro ad rfl
 rcases h.2 with ⟨h', _⟩ | ⟨g, cap, cur, h', hb, _⟩
 ·simp at h'
 ·simp only [Value.slice.injEq, Option.some.injEq] at h'
  rw [h'.1]; exact hb
section
variable {P : Program} (w : World)
theorem run_append_nil (base : Nat) (t ty e : TypeId) (i : TypeInfo) (ht : P.underlying t = some (.slice e)) (hi : P.info? e = some i) (size : Nat)
  (v : Value) (n : Nat) (xs : List Value) (hown : w.ownsRow base e size v n xs) (c : Nat) : (Builtin.append_ #[t, t] ty #[v, .slice none 0 c]).run P w = .ok v w := by
 rcases hown.2 with ⟨rfl, rfl⟩ | ⟨g, cap, cur, rfl, _, _, hnc, _⟩
 ·simp [Builtin.append_, run_underlying ht, sizeOf, typeInfo, hi, Builtin.lenOf, Builtin.firstCells]
 ·simp [Builtin.append_, run_underlying ht, sizeOf, typeInfo, hi, Builtin.lenOf, Builtin.firstCells, hnc, storeCells]
theorem zni (base : Nat) (t ty e : TypeId) (i : TypeInfo) (z : Value) (bytes : Nat) (ht : P.underlying t = some (.slice e)) (hi : P.info? e = some i) (hz : i.zero = some z)
  (hsize : i.size = 1) (hby : i.bytes = bytes) (hzs : z.cells.size = 1)
  (v : Value) (n : Nat) (xs : List Value) (hown : w.ownsRow base e 1 v n xs) (A : Option Addr) (m c : Nat) (news : List Value) (hr : Lst w A news) (hl : news.length = m) (h1 : ∀ u ∈ news, u.oneCell' = true)
  (h63 : n + m ≤ maxLen) (hbytes : (n + m) * bytes ≤ 140737488355328) (hbase : base ≤ w.heap.size) :
  ∃ A' c' w', (Builtin.append_ #[t, t] ty #[v, .slice A m c]).run P w = .ok (.slice A' (n + m) c') w' ∧ w'.ownsRow base e 1 (.slice A' (n + m) c') (n + m) (xs ++ news) ∧ w.grownBy w' v.ownBlock ∧
    ((Value.slice A' (n + m) c').ownBlock = v.ownBlock ∨ (Value.slice A' (n + m) c').ownBlock = some w.heap.size) := by
 rcases A with _ | ad
 ·have hn : news = [] := by
   cases news with
   | nil => rfl
   | cons x l => obtain ⟨_, h, _⟩ := hr 0 x rfl; cases h
  subst hn
  simp only [List.length_nil] at hl
  subst hl
  obtain ⟨A', c', rfl⟩ := zam hown
  exact ⟨A', c', w, run_append_nil w base t ty e i ht hi 1 _ n xs hown c, by simpa using hown, ⟨rfl, rfl, rfl, Nat.le_refl _, fun _ _ _ => rfl⟩, .inl rfl⟩
 ·obtain ⟨v', w', hrun, h2, h3, _, h5⟩ := run_append_own_at (P := P) w base t ty e i z 1 bytes ht hi hz hsize hby hzs (by omega) v n xs hown ad m c news (by rw [hl]; omega) (fun j u hu => hr.addr hu) h1 h63 hbytes hbase
  obtain ⟨A', c', rfl⟩ := zam h2
  exact ⟨A', c', w', hrun, h2, h3, h5⟩
theorem zie {o : Oper} {a : Act} {K : Act → World → Prop} {Q : Exit → Act → World → Prop} (s x : Operand) (t : TypeId)
  (ho : o.op = .call { callee := .builtin .append, args := #[s, x], argTypes := #[t, t] })
  (base : Nat) (e : TypeId) (i : TypeInfo) (z : Value) (bytes : Nat) (ht : P.underlying t = some (.slice e)) (hi : P.info? e = some i) (hz : i.zero = some z)
  (hsize : i.size = 1) (hby : i.bytes = bytes) (hzs : z.cells.size = 1)
  (v : Value) (n : Nat) (xs : List Value) (hs : a.eval s = v) (hown : w.ownsRow base e 1 v n xs) (A : Option Addr) (m c : Nat) (news : List Value) (hx : a.eval x = .slice A m c) (hr : Lst w A news) (hl : news.length = m) (h1 : ∀ u ∈ news, u.oneCell' = true)
  (h63 : n + m ≤ maxLen) (hbytes : (n + m) * bytes ≤ 140737488355328) (hbase : base ≤ w.heap.size) (H : Nat) (hH : w.heap.size = H)
  (h : ∀ A' c' w', w'.ownsRow base e 1 (.slice A' (n + m) c') (n + m) (xs ++ news) → w.grownBy w' v.ownBlock → ((Value.slice A' (n + m) c').ownBlock = v.ownBlock ∨ (Value.slice A' (n + m) c').ownBlock = some H) → K (a.put o.dst (.slice A' (n + m) c')) w') :
  o.wp P a w K Q := by
 obtain ⟨A', c', w', hrun, h2, h3, h4⟩ := zni (P := P) w base t o.type e i z bytes ht hi hz hsize hby hzs v n xs hown A m c news hr hl h1 h63 hbytes hbase
 unfold Oper.wp execOp
 simp only [ho, resolve, invoke, builtin, Sem.run_bind, Sem.run_pure, Result.andThen_ok, List.map_toArray, List.map_cons, List.map_nil, hs, hx, hrun]
 exact h A' c' w' h2 h3 (hH ▸ h4)
theorem zaa {ops : Array Oper} {rest : List Oper} {o : Oper} {a : Act} {Q : Exit → Act → World → Prop} (hgd : o.guard = none) (s x : Operand) (t : TypeId)
  (ho : o.op = .call { callee := .builtin .append, args := #[s, x], argTypes := #[t, t] })
  (base : Nat) (e : TypeId) (i : TypeInfo) (z : Value) (bytes : Nat) (ht : P.underlying t = some (.slice e)) (hi : P.info? e = some i) (hz : i.zero = some z)
  (hsize : i.size = 1) (hby : i.bytes = bytes) (hzs : z.cells.size = 1)
  (v : Value) (n : Nat) (xs : List Value) (hs : a.eval s = v) (hown : w.ownsRow base e 1 v n xs) (A : Option Addr) (m c : Nat) (news : List Value) (hx : a.eval x = .slice A m c) (hr : Lst w A news) (hl : news.length = m) (h1 : ∀ u ∈ news, u.oneCell' = true)
  (h63 : n + m ≤ maxLen) (hbytes : (n + m) * bytes ≤ 140737488355328) (hbase : base ≤ w.heap.size) (H : Nat) (hH : w.heap.size = H)
  (h : ∀ A' c' w', w'.ownsRow base e 1 (.slice A' (n + m) c') (n + m) (xs ++ news) → w.grownBy w' v.ownBlock → ((Value.slice A' (n + m) c').ownBlock = v.ownBlock ∨ (Value.slice A' (n + m) c').ownBlock = some H) → wpList P ops Q rest (a.put o.dst (.slice A' (n + m) c')) w') :
  wpList P ops Q (o :: rest) a w :=
 wpList_plain hgd fun _ hK => zie w s x t ho base e i z bytes ht hi hz hsize hby hzs v n xs hs hown A m c news hx hr hl h1 h63 hbytes hbase H hH fun A' c' w' h2 h3 h4 => hK _ _ (h A' c' w' h2 h3 h4)
theorem zml {ops : Array Oper} {o : Oper} {a : Act} {K : Act → World → Prop} {Q : Exit → Act → World → Prop} {E : Prop} (hgd : o.guard = none) (s x : Operand) (t : TypeId)
  (ho : o.op = .call { callee := .builtin .append, args := #[s, x], argTypes := #[t, t] })
  (base : Nat) (e : TypeId) (i : TypeInfo) (z : Value) (bytes : Nat) (ht : P.underlying t = some (.slice e)) (hi : P.info? e = some i) (hz : i.zero = some z)
  (hsize : i.size = 1) (hby : i.bytes = bytes) (hzs : z.cells.size = 1)
  (v : Value) (n : Nat) (xs : List Value) (hs : a.eval s = v) (hown : w.ownsRow base e 1 v n xs) (A : Option Addr) (m c : Nat) (news : List Value) (hx : a.eval x = .slice A m c) (hr : Lst w A news) (hl : news.length = m) (h1 : ∀ u ∈ news, u.oneCell' = true)
  (h63 : n + m ≤ maxLen) (hbytes : (n + m) * bytes ≤ 140737488355328) (hbase : base ≤ w.heap.size) (H : Nat) (hH : w.heap.size = H)
  (h : ∀ A' c' w', w'.ownsRow base e 1 (.slice A' (n + m) c') (n + m) (xs ++ news) → w.grownBy w' v.ownBlock → ((Value.slice A' (n + m) c').ownBlock = v.ownBlock ∨ (Value.slice A' (n + m) c').ownBlock = some H) → K (a.put o.dst (.slice A' (n + m) c')) w') :
  if Region.wanted o (yielded ops a.tmps) = true then Oper.wp P o a w K Q else E := by
 have hw : Region.wanted o (yielded ops a.tmps) = true := by simp [Region.wanted, hgd]
 rw [if_pos hw]
 exact zie w s x t ho base e i z bytes ht hi hz hsize hby hzs v n xs hs hown A m c news hx hr hl h1 h63 hbytes hbase H hH h
end
theorem zc3 (w : World) (x : Value) (e : TypeId) (k : Nat) (hk : k = w.heap.size) : Lst (w.alloc (.cells #[x] e)) (some ⟨k, 0, none⟩) [x] := fun j u hu => ⟨_, rfl, by subst hk; exact cell_one_new _ _ _ j u hu⟩
theorem zzh (w : World) (base : Nat) (e : TypeId) (hb : base ≤ w.heap.size) : (w.alloc (.cells #[] e)).ownsRow base e 1 (.slice (some ⟨w.heap.size, 0, none⟩) 0 0) 0 [] :=
 World.ownsRow_lit w #[] 0 hb (by simp [maxLen]) rfl
theorem z5t {w : World} {base : Nat} {e : TypeId} {A : Option Addr} {n c : Nat} {xs : List Value} (h : w.ownsRow base e 1 (.slice A n c) n xs) : n ≤ c := by
 rcases h.2 with ⟨h', h0⟩ | ⟨g, cap, cur, h', _, _, h1, _⟩
 ·omega
 ·simp only [Value.slice.injEq] at h'
  omega
end Go.Proofs.YtgpbpgpolpakjaaGreatDoor
