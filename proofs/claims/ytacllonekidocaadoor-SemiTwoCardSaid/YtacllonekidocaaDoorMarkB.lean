/- Walks: the marks of a record: which bytes are marks, the iterator. -/
import Derived.Test.YtacllonekidocaaDoorMarkA
import Derived.Test.YtacllonekidocaaDoorScanB
import Derived.RangeFuncNested
import Derived.RangeFuncBox
import Derived.RangeFuncBound
import Derived.RangeFuncCalls
import Derived.RangeFuncLeaves
import Derived.Shelf.Abstract
import Derived.Shelf.RegionOpen
import Derived.WalkKit
import Derived.OwnWalkIn
import Derived.TacticsInMore
import Derived.LoopNIn
import Derived.LoopIn
set_option linter.unusedVariables false
set_option linter.unusedSimpArgs false
set_option maxRecDepth 100000
namespace Go.Proofs.YtacllonekidocaaDoor
open Go.RowKit Go.Shelf L
attribute [local go_sem] Oper.semAt_some

theorem mIs_any (c : Nat) (w : World) : Calls Tryd.prog 37 #[.int .u8 (c : Nat)] w fun e w' => e = .returned (.bool (isM c)) ∧ w = w' := by
  have HM := hid (fun (h : c ≠ 91 ∧ c ≠ 93 ∧ c ≠ 123 ∧ c ≠ 125 ∧ c ≠ 58 ∧ c ≠ 44) => isM_not h)
  by_cases h1 : c = 91
  · subst h1
    go_enter Tryd.func37, Tryd.ntmps37
    go_wp2_with fail
    go_ret
    exact ⟨rfl, rfl⟩
  by_cases h2 : c = 93
  · subst h2
    go_enter Tryd.func37, Tryd.ntmps37
    go_wp2_with fail
    go_ret
    exact ⟨rfl, rfl⟩
  by_cases h3 : c = 123
  · subst h3
    go_enter Tryd.func37, Tryd.ntmps37
    go_wp2_with fail
    go_ret
    exact ⟨rfl, rfl⟩
  by_cases h4 : c = 125
  · subst h4
    go_enter Tryd.func37, Tryd.ntmps37
    go_wp2_with fail
    go_ret
    exact ⟨rfl, rfl⟩
  by_cases h5 : c = 58
  · subst h5
    go_enter Tryd.func37, Tryd.ntmps37
    go_wp2_with fail
    go_ret
    exact ⟨rfl, rfl⟩
  by_cases h6 : c = 44
  · subst h6
    go_enter Tryd.func37, Tryd.ntmps37
    go_wp2_with fail
    go_ret
    exact ⟨rfl, rfl⟩
  have n1 : ((c : Int) == 91) = false := by rw [beq_eq_false_iff_ne]; omega
  have n2 : ((c : Int) == 93) = false := by rw [beq_eq_false_iff_ne]; omega
  have n3 : ((c : Int) == 123) = false := by rw [beq_eq_false_iff_ne]; omega
  have n4 : ((c : Int) == 125) = false := by rw [beq_eq_false_iff_ne]; omega
  have n5 : ((c : Int) == 58) = false := by rw [beq_eq_false_iff_ne]; omega
  have n6 : ((c : Int) == 44) = false := by rw [beq_eq_false_iff_ne]; omega
  have HE := hid (HM.out ⟨h1, h2, h3, h4, h5, h6⟩)
  clear h1 h2 h3 h4 h5 h6
  go_enter Tryd.func37, Tryd.ntmps37
  go_wp2_with fail
  go_ret
  exact ⟨by rw [HE.out]; rfl, rfl⟩

theorem wrap_oneM (k : Nat) (h : k ≤ 4294967296) : IntKind.i64.wrap ((k : Int) + 1) = (k : Int) + 1 := by rw [IntKind.wrap_i64]; omega
section
variable {F : Fence} {n : Nat} {P : Program} {Q : Exit → Act → World → Prop} {b : Frame} {a : Act} {k : List Item} {cs : List Frame} {w : World}
theorem stepR_scope {c : Code} : step P (lone (b.atR a (.code (.scope c) :: k)) cs w) = .next (lone (b.atR a (.code c :: .inScope c :: k)) cs w) :=
  step_lone_go (by simp [stepG, stepG.exec, Frame.atR])
theorem stepR_inScope {c : Code} : step P (lone (b.atR a (.inScope c :: k)) cs w) = .next (lone (b.atR a k) cs w) :=
  step_lone_go (by simp [stepG, stepG.exec, Frame.atR])
/-- A scope whose labels nothing jumps to. -/
theorem wpIn_scope_straight {c : Code} (h : c.wpIn F n P (Exit.noGoto Q) a w) : (Code.scope c).wpIn F n P Q a w := by
  intro b k cs hro hb hr
  have h0 : (lone (b.atR a (.code (.scope c) :: k)) cs w).fenced P F := fenced_calm hb hr rfl
  obtain ⟨e, a₁, w₁, hq, harr⟩ := h b (.inScope c :: k) cs hro hb hr
  cases e with
  | normal => exact ⟨.normal, a₁, w₁, hq, .head h0 stepR_scope (StepsIn.trans harr (.one (fenced_calm hb hr rfl) stepR_inScope))⟩
  | exit id =>
    have hx : exitTo id (.inScope c :: k) = exitTo id k := by simp [exitTo]
    exact ⟨.exit id, a₁, w₁, hq, fun k' hk => .head h0 stepR_scope (harr.1 k' (by rw [hx]; exact hk)),
      fun hr' hk => let ⟨k₁, h1, h2⟩ := harr.2 hr' (by rw [hx]; exact hk); ⟨k₁, h1, .head h0 stepR_scope h2⟩⟩
  | goto l => exact hq.elim
  | ret => exact ⟨_, a₁, w₁, hq, .of_steps (.one h0 stepR_scope) harr⟩
  | panic ch => exact ⟨_, a₁, w₁, hq, .of_steps (.one h0 stepR_scope) harr⟩
  | outgrown => exact ⟨_, a₁, w₁, hq, .of_steps (.one h0 stepR_scope) harr⟩
end
/-- Block Bn stays. -/
def KpM (Bn : Nat) (W W' : World) : Prop := W'.heap[Bn]? = W.heap[Bn]?
theorem KpM.t {Bn : Nat} : ∀ {A B C : World}, KpM Bn A B → KpM Bn B C → KpM Bn A C := fun h k => k.trans h
theorem KpM.b {Bn : Nat} {w : World} (h : Bn < w.heap.size) : ∀ (W : World) (l : Nat) (o o' : Obj), w.heap.size ≤ l → W.heap[l]? = some o → o.isCells = false → o.isWalk = false → KpM Bn W (W.putObj l o') := fun W l o o' hl _ _ _ => by
  refine (grownBy_putObj' W l o').block Bn ?_ (fun e => by cases e; omega)
  rename_i h3 _ _
  have := (Array.getElem?_eq_some_iff.1 h3).1
  omega

/-- A mark, as the loop hands it on. -/
def mkE (x : Nat × Nat) : Array Value := #[.int .i64 (x.1 : Nat), .int .u8 (x.2 : Nat)]
/-- The state that a flag stands for. -/
def stOf (b : Bool) : Nat := if b then 1 else 0
/-- The marks from a place on. -/
def L.mkFrom (l : List Nat) (b : Bool) (a : Nat) : List (Nat × Nat) := mkGo (stOf b) (l.drop a) a
theorem L.mkFrom_end {l : List Nat} {b : Bool} {a : Nat} (h : l.length ≤ a) : mkFrom l b a = [] := by unfold mkFrom; rw [List.drop_eq_nil_of_le h]; rfl
theorem L.mkFrom_step {l : List Nat} {a : Nat} (b : Bool) (h : a < l.length) : mkFrom l b a = (if isMk (stOf b) (at_ l a) then [(a, at_ l a)] else []) ++ mkGo (mstep (stOf b) (at_ l a)) (l.drop (a + 1)) (a + 1) := by
  unfold mkFrom
  have e : l.drop a = at_ l a :: l.drop (a + 1) := by
    rw [List.drop_eq_getElem_cons h]
    congr 1
    have := at_get h
    rw [List.getElem?_eq_getElem h] at this
    exact Option.some.inj this
  rw [e]; rfl
theorem L.mkFrom_quote {l : List Nat} {a : Nat} (b : Bool) (h : a < l.length) (hc : at_ l a = 34) : mkFrom l b a = mkFrom l (!b) (a + 1) := by
  rw [mkFrom_step b h, hc]
  cases b <;> rfl
theorem L.mkFrom_back {l : List Nat} {a : Nat} (h : a < l.length) (hc : at_ l a = 92) : mkFrom l true a = mkFrom l true (a + 2) := by
  rw [mkFrom_step true h, hc]
  show mkGo 2 (l.drop (a + 1)) (a + 1) = _
  rcases Nat.lt_or_ge (a + 1) l.length with h1 | h1
  · rw [List.drop_eq_getElem_cons h1]
    rfl
  · rw [List.drop_eq_nil_of_le h1, mkFrom_end (by omega)]; rfl
theorem L.mkFrom_in {l : List Nat} {a : Nat} (h : a < l.length) (hc : at_ l a ≠ 34) (hb : at_ l a ≠ 92) : mkFrom l true a = mkFrom l true (a + 1) := by
  rw [mkFrom_step true h]
  have e : mstep (stOf true) (at_ l a) = 1 := by unfold mstep stOf; simp [hc, hb]
  rw [e]; rfl
theorem L.mkFrom_not {l : List Nat} {a : Nat} (h : a < l.length) (hc : at_ l a ≠ 34) (hb : isM (at_ l a) = false) : mkFrom l false a = mkFrom l false (a + 1) := by
  rw [mkFrom_step false h]
  have e : mstep (stOf false) (at_ l a) = 0 := by unfold mstep stOf; simp [hc]
  have e2 : isMk (stOf false) (at_ l a) = false := mk_not (Or.inr hb)
  rw [e, e2]; rfl
theorem L.mkFrom_mark {l : List Nat} {a : Nat} (h : a < l.length) (hb : isM (at_ l a) = true) : mkFrom l false a = (a, at_ l a) :: mkFrom l false (a + 1) := by
  rw [mkFrom_step false h]
  have hc : at_ l a ≠ 34 := fun e => by rw [e] at hb; cases hb
  have e : mstep (stOf false) (at_ l a) = 0 := by unfold mstep stOf; simp [hc]
  have e2 : isMk (stOf false) (at_ l a) = true := by unfold isMk stOf; simp [hb]
  rw [e, e2]; rfl

set_option maxHeartbeats 1000000 in
theorem mEach1_in (n : Nat) (hn : 2 ≤ n) (l Bn : Nat) (s : ByteArray) (hs : s.size ≤ 1048576) (J Jx : List (Nat × Nat) → World → Prop)
    (hY : ∀ pre x W, J pre W → pre.length < (mks (nb s)).length → YieldAt Fence.wide (n - 1) Tryd.prog l (mkE x) W fun e W' =>
      (e = .returned (.bool true) ∧ J (pre ++ [x]) W' ∧ KpM Bn W W') ∨ (e = .returned (.bool false) ∧ Jx (pre ++ [x]) W'))
    (W : World) (hc : W.cell? ⟨Bn, 0, none⟩ = some (.string s)) (h0 : J [] W) :
    CallsIn Fence.wide n Tryd.prog 36 #[.func (.yield l) #[] #[], .pointer (some ⟨Bn, 0, none⟩)] W fun e W' => (∃ v, e = .returned v) ∧
      ((∃ ys, ys = mks (nb s) ∧ J ys W') ∨ (∃ pre, pre <+: mks (nb s) ∧ Jx pre W')) := by
  have HL := hid (nb_length s)
  refine callsIn_of_wp Tryd.func36 rfl trivial ?_ rfl
  simp only [Tryd.ntmps36, List.size_toArray, List.length_cons, List.length_nil, Nat.reduceAdd, Nat.reduceSub, Array.replicate_succ, Array.replicate_zero, List.push_toArray, List.append_toArray, List.nil_append, List.cons_append]
  refine wpIn_scope_straight ?_
  gi_wp2
  refine wpIn_label ?_
  gi_wp2
  gi_loopw [3, 4] (fun iv av wr => ∃ (pre : List (Nat × Nat)) (b : Bool) (a : Nat), iv = .bool b ∧ av = .int .i64 (a : Nat) ∧ a ≤ s.size + 1 ∧ Hid (mks (nb s) = pre ++ mkFrom (nb s) b a) ∧ J pre wr ∧ wr.cell? ⟨Bn, 0, none⟩ = some (.string s))
    (fun _ av _ => s.size + 1 - (intOf av).toNat)
  case atStart => exact ⟨[], false, 0, rfl, rfl, by omega, hid rfl, h0, hc⟩
  case round =>
    obtain ⟨pre, b, a, rfl, rfl, ha, hx, hJs, hcr⟩ := hrel
    rcases Nat.lt_or_ge a s.size with h | h
    · have hi : (a : Int) < (s.size : Int) := by omega
      have hi2 : decide ((a : Int) < (s.size : Int)) = true := decide_eq_true hi
      have hi0 : (0 : Int) ≤ (a : Int) := by omega
      have hll : a < (nb s).length := by rw [HL.out]; exact h
      have hat := at_nb s a h
      have hlt := UInt8.toNat_lt s[a]
      have hw1 := wrap_oneM a (by omega)
      have hw2 := wrap_oneM (a + 1) (by omega)
      by_cases h34 : (s[a]).toNat = 34
      · have HX := hid (show mks (nb s) = pre ++ mkFrom (nb s) (!b) (a + 1) by rw [hx.out, mkFrom_quote b hll (by rw [hat]; exact h34)])
        have n34 : (((s[a]).toNat : Int) == 34) = true := by rw [beq_iff_eq]; omega
        have n92 : (((s[a]).toNat : Int) == 92) = false := by rw [beq_eq_false_iff_ne]; omega
        clear h34 hat hll hx
        cases b
        · gi_wp2
          exact ⟨⟨pre, true, a + 1, rfl, by go_num, by omega, HX, hJs, hcr⟩, by simp [intOf]; omega⟩
        · gi_wp2
          exact ⟨⟨pre, false, a + 1, rfl, by go_num, by omega, HX, hJs, hcr⟩, by simp [intOf]; omega⟩
      · have n34 : (((s[a]).toNat : Int) == 34) = false := by rw [beq_eq_false_iff_ne]; omega
        cases b with
        | true =>
          by_cases h92 : (s[a]).toNat = 92
          · have HX := hid (show mks (nb s) = pre ++ mkFrom (nb s) true (a + 2) by rw [hx.out, mkFrom_back hll (by rw [hat]; exact h92)])
            have n92 : (((s[a]).toNat : Int) == 92) = true := by rw [beq_iff_eq]; omega
            clear h34 hat hll hx h92
            gi_wp2
            exact ⟨⟨pre, true, a + 2, rfl, by go_num, by omega, HX, hJs, hcr⟩, by simp [intOf]; omega⟩
          · have HX := hid (show mks (nb s) = pre ++ mkFrom (nb s) true (a + 1) by rw [hx.out, mkFrom_in hll (by rw [hat]; exact h34) (by rw [hat]; exact h92)])
            have n92 : (((s[a]).toNat : Int) == 92) = false := by rw [beq_eq_false_iff_ne]; omega
            clear h34 hat hll hx h92
            gi_wp2
            refine ⟨trivial, ?_⟩
            gi_wp2
            exact ⟨⟨pre, true, a + 1, rfl, by go_num, by omega, HX, hJs, hcr⟩, by simp [intOf]; omega⟩
        | false =>
          have HIS := hid (fun W => mIs_any (s[a]).toNat W)
          cases hm : isM (s[a]).toNat with
          | false =>
            have HX := hid (show mks (nb s) = pre ++ mkFrom (nb s) false (a + 1) by rw [hx.out, mkFrom_not hll (by rw [hat]; exact h34) (by rw [hat]; exact hm)])
            rw [hm] at HIS
            clear h34 hat hll hx hm
            gi_wp2
            refine ⟨trivial, fun _ => by omega, ?_⟩
            refine (callsIn_wide.2 (HIS.out _)).mono ?_
            rintro e w' ⟨rfl, rfl⟩
            gi_wp2
            exact ⟨⟨pre, false, a + 1, rfl, by go_num, by omega, HX, hJs, hcr⟩, by simp [intOf]; omega⟩
          | true =>
            have hx2 : mks (nb s) = pre ++ (a, (s[a]).toNat) :: mkFrom (nb s) false (a + 1) := by rw [hx.out, mkFrom_mark hll (by rw [hat]; exact hm), hat]
            obtain ⟨fn, tmps, assign, body, hy, hR⟩ := hY pre (a, (s[a]).toNat) wr hJs (by rw [hx2]; simp)
            dsimp only [mkE] at hy hR
            have HX := hid (show mks (nb s) = (pre ++ [(a, (s[a]).toNat)]) ++ mkFrom (nb s) false (a + 1) by rw [hx2]; simp)
            rw [hm] at HIS
            clear h34 hat hll hx hm hx2
            gi_wp2
            refine ⟨trivial, fun _ => by omega, ?_⟩
            refine (callsIn_wide.2 (HIS.out _)).mono ?_
            rintro e w' ⟨rfl, rfl⟩
            gi_wp2
            refine ⟨fun _ => by omega, ?_⟩
            refine hR.mono ?_
            rintro e W3 (⟨rfl, hJ3, hk3⟩ | ⟨rfl, hJx3⟩)
            · have hq3 : W3.cell? ⟨Bn, 0, none⟩ = some (.string s) := (World.cell?_of_block (a := ⟨Bn, 0, none⟩) hk3).trans hcr
              gi_wp2
              exact ⟨⟨pre ++ [(a, (s[a]).toNat)], false, a + 1, rfl, by go_num, by omega, HX, hJ3, hq3⟩, by simp [intOf]; omega⟩
            · gi_wp2
              try rw [Exit.noGoto_ret]
              refine bodyPost_ret (results_none rfl _ _ _) rfl ?_
              exact ⟨⟨_, rfl⟩, .inr ⟨pre ++ [(a, (s[a]).toNat)], ⟨_, HX.out.symm⟩, hJx3⟩⟩
    · have hi : decide ((a : Int) < (s.size : Int)) = false := decide_eq_false (by omega)
      have hiN : ¬ (a < s.size) := by omega
      have hE := hid (mkFrom_end (l := nb s) (b := b) (a := a) (by rw [HL.out]; exact h))
      gi_wp2
      try rw [Exit.noGoto_normal]
      go_end0
      exact ⟨⟨_, rfl⟩, .inl ⟨pre, by rw [hx.out, hE.out, List.append_nil], hJs⟩⟩
end Go.Proofs.YtacllonekidocaaDoor
