/- Walks: the laws of chapter 12 that ask no reference: many brackets. -/
import Derived.Test.YtegoephanphnkaaLScanD
import Derived.Lib.AppendStr
set_option linter.unusedVariables false
set_option linter.unusedSimpArgs false
set_option maxRecDepth 100000
namespace Go.Proofs.Ytegoephanphnkaa
open Go.RowKit Go.Shelf L

/-- So many brackets that open; that close. -/
def opn (o : Bool) : List UInt8 := if o then [123, 34, 97, 34, 58] else [91]
def opns (o : Bool) (k : Nat) : List UInt8 := (List.replicate k (opn o)).flatten
def clo (o : Bool) : UInt8 := if o then 125 else 93
def mid (o : Bool) : List UInt8 := if o then [48] else []
def deepB (o : Bool) (k j : Nat) : List UInt8 := opns o k ++ mid o ++ List.replicate j (clo o)
theorem opns_succ (o : Bool) (k : Nat) : opns o (k + 1) = opns o k ++ opn o := by unfold opns; rw [List.replicate_succ', List.flatten_append]; simp
theorem opns_length (o : Bool) : ∀ k, (opns o k).length = k * (opn o).length
  | 0 => by simp [opns]
  | k + 1 => by rw [opns_succ, List.length_append, opns_length o k, Nat.add_one_mul]
theorem opn_length (o : Bool) : (opn o).length = if o then 5 else 1 := by cases o <;> rfl
theorem deepB_length (o : Bool) (k j : Nat) : (deepB o k j).length = if o then 5 * k + 1 + j else k + j := by
  unfold deepB
  rw [List.length_append, List.length_append, opns_length, opn_length, List.length_replicate]
  cases o
  · simp [mid]
  · simp [mid]; omega
theorem deepB_succ (o : Bool) (k j : Nat) : deepB o k (j + 1) = deepB o k j ++ [clo o] := by unfold deepB; rw [List.replicate_succ', ← List.append_assoc]

def nats8 (l : List UInt8) : List Nat := l.map UInt8.toNat
theorem nats8_append (a b : List UInt8) : nats8 (a ++ b) = nats8 a ++ nats8 b := by unfold nats8; rw [List.map_append]

def st0 (o : Bool) (k : Nat) : St := Q (if k = 0 then 0 else if o then 0 else 1) (List.replicate k o) k
theorem opn_drive (o : Bool) (k : Nat) : drive (st0 o k) (nats8 (opn o)) = some (st0 o (k + 1)) := by
  have e : st0 o (k + 1) = Q (if o then 0 else 1) (o :: List.replicate k o) (k + 1) := by unfold st0; rw [if_neg (by omega), List.replicate_succ]
  rw [e]
  have hop : ∀ M, openB (Q M (List.replicate k o) k) o = Q (if o then 2 else 1) (o :: List.replicate k o) (k + 1) := fun M => by
    unfold openB Q
    simp only [List.length_replicate]
    rw [show max k (k + 1) = k + 1 from by omega]
  cases o
  · have h1 : delta (st0 false k) 91 = some (openB (Q 0 (List.replicate k false) k) false) := by
      unfold st0
      by_cases h0 : k = 0
      · rw [if_pos h0]; rfl
      · rw [if_neg h0]; rfl
    show drive (st0 false k) [91] = _
    rw [drive_one h1, hop]; rfl
  · have h1 : delta (st0 true k) 123 = some (openB (Q 0 (List.replicate k true) k) true) := by
      unfold st0
      by_cases h0 : k = 0
      · rw [if_pos h0]; rfl
      · rw [if_neg h0]; rfl
    show drive (st0 true k) ([123] ++ [34, 97, 34, 58]) = _
    refine drive_app (drive_one h1) ?_
    rw [hop]; rfl
theorem opns_drive (o : Bool) : ∀ k, drive L.start (nats8 (opns o k)) = some (st0 o k)
  | 0 => by cases o <;> rfl
  | k + 1 => by rw [opns_succ, nats8_append]; exact drive_app (opns_drive o k) (opn_drive o k)
/-- Behind the middle. -/
def st1 (o : Bool) (k : Nat) : St := Q (if o then 11 else 1) (List.replicate k o) k
theorem mid_drive (o : Bool) (k : Nat) (hk : 0 < k) : drive (st0 o k) (nats8 (mid o)) = some (st1 o k) := by
  cases o
  · unfold st0 st1
    rw [if_neg (by omega)]; rfl
  · unfold st0 st1
    rw [if_neg (by omega)]; rfl
def st2 (o : Bool) (k j : Nat) : St := if j = 0 then st1 o k else Q 5 (List.replicate (k - j) o) k
theorem clo_drive (o : Bool) (k j : Nat) (hj : j < k) : drive (st2 o k j) (nats8 [clo o]) = some (st2 o k (j + 1)) := by
  have hr : List.replicate (k - j) o = o :: List.replicate (k - (j + 1)) o := by rw [show k - j = (k - (j + 1)) + 1 from by omega, List.replicate_succ]
  have e : st2 o k (j + 1) = Q 5 (List.replicate (k - (j + 1)) o) k := by unfold st2; rw [if_neg (by omega)]
  rw [e]
  unfold st2
  by_cases h0 : j = 0
  · subst h0
    rw [if_pos rfl]
    unfold st1
    rw [Nat.sub_zero] at hr
    rw [hr]
    cases o <;> rfl
  · rw [if_neg h0, hr]
    cases o <;> rfl
theorem clos_drive (o : Bool) (k : Nat) (hk : 0 < k) : ∀ j, j ≤ k → drive L.start (nats8 (deepB o k j)) = some (st2 o k j)
  | 0, h => by
    have e : deepB o k 0 = opns o k ++ mid o := by unfold deepB; simp
    rw [e, nats8_append]
    exact drive_app (opns_drive o k) (by rw [mid_drive o k hk]; rfl)
  | j + 1, h => by
    rw [deepB_succ, nats8_append]
    exact drive_app (clos_drive o k hk j (by omega)) (clo_drive o k j (by omega))
theorem deep_full (o : Bool) (k d : Nat) (hk : 0 < k) (hl : (deepB o k k).length ≤ 65536) : verd (nb ⟨(deepB o k k).toArray⟩) d = (if d < k then 2 else 1, k) := by
  have hd := clos_drive o k hk k (Nat.le_refl _)
  have e : st2 o k k = Q 5 [] k := by unfold st2; rw [if_neg (by omega), Nat.sub_self]; rfl
  rw [e] at hd
  have hg := drive_to_goA hd 0
  have hok : okv (nats8 (deepB o k k)) := by
    unfold okv
    rw [hg]; exact ⟨by show 0 + _ = _; omega, rfl⟩
  rw [nb_mk]
  show verd (nats8 _) d = _
  rw [verd_ok (by unfold nats8; rw [List.length_map]; exact hl) hok, hg]
  show (if d < k then (2, k) else (1, k)) = _
  split <;> rfl
theorem deep_cut (o : Bool) (k d : Nat) (hk : 0 < k) (hl : (deepB o k k).length ≤ 65536) : verd (nb ⟨(deepB o k (k - 1)).toArray⟩) d = (3, (deepB o k (k - 1)).length) := by
  have hd := clos_drive o k hk (k - 1) (by omega)
  have hg := drive_to_goA hd 0
  have hlen : (deepB o k (k - 1)).length ≤ 65536 := by
    rw [deepB_length] at hl ⊢
    cases o
    · simp only [Bool.false_eq_true, if_false] at hl ⊢; omega
    · simp only [if_true] at hl ⊢; omega
  have hno : ¬ okv (nats8 (deepB o k (k - 1))) := by
    rintro ⟨_, e⟩
    rw [hg] at e
    obtain ⟨e1, _⟩ := (fin_iff _).1 e
    unfold st2 at e1
    by_cases h0 : k - 1 = 0
    · rw [if_pos h0] at e1
      unfold st1 Q at e1
      simp only [] at e1
      have := congrArg List.length e1
      simp at this; omega
    · rw [if_neg h0] at e1
      unfold Q at e1
      simp only [] at e1
      have := congrArg List.length e1
      simp at this; omega
  rw [nb_mk]
  show verd (nats8 _) d = _
  rw [verd_no (by unfold nats8; rw [List.length_map]; exact hlen) hno, hg]
  show (3, 0 + (nats8 _).length) = _
  unfold nats8
  rw [List.length_map, Nat.zero_add]

/-- string(b) of bytes that lie somewhere. -/
theorem run_string_lst {w : World} {A : Option Addr} {c : Nat} {l : List UInt8} (h : Lst w A (Lib.byteCells l)) (h0 : 0 < l.length) :
    (convert 32 9 (.slice A l.length c)).run Try.prog w = .ok (.string ⟨l.toArray⟩) w := by
  obtain ⟨ab, ao, rfl, _, hcl⟩ := Lst.lit h (by rw [Lib.byteCells_length]; exact h0)
  have := run_convert_bytes_arg w 32 5 Try.underlying32 Try.underlying5 ab ao l.length c (l.map fun b => (b.toNat : Int)) (by simp) (fun i hi => by
    rw [hcl i (.int .u8 (l[i].toNat : Nat)) (by simp [Lib.byteCells, hi])]
    simp [hi]) 9 Try.underlying9
  rw [this]
  congr 2
  apply ByteArray.ext
  apply Array.toList_inj.1
  rw [strOfNums_data, List.map_map]
  have hid : ((fun n : Int => UInt8.ofNat n.toNat) ∘ fun b : UInt8 => (b.toNat : Int)) = id := by funext b; simp
  rw [hid, List.map_id]
theorem bytes_one1 (l : List UInt8) : ∀ u ∈ Lib.byteCells l, u.oneCell' = true := by
  intro u hu
  obtain ⟨x, _, rfl⟩ := List.mem_map.1 hu
  rfl

theorem strC (l : List UInt8) : Lib.strCells ⟨l.toArray⟩ = Lib.byteCells l := rfl

set_option maxHeartbeats 4000000 in
theorem deep_any (n d : Nat) (o : Bool) (w : World) (hn : n < 65536) (hd : d < 65536) :
    Calls Try.prog 6 #[.int .u16 (n : Nat), .int .u16 (d : Nat), .bool o] w fun e w' => e = .returned (.bool true) ∧ Below w.heap.size w w' := by
  obtain ⟨i0, hi0, iz0, iz1, iz2⟩ := info_parts Try.infoU8
  obtain ⟨k0, hk0⟩ : ∃ k0, k0 = n % 4200 := ⟨_, rfl⟩
  obtain ⟨D0, hD0⟩ : ∃ D0, D0 = d % 4096 := ⟨_, rfl⟩
  have hkI : (n : Int) % 4200 = (k0 : Int) := by omega
  have hDI : (d : Int) % 4096 = (D0 : Int) := by omega
  have hkT : (n : Int).tmod 4200 = (k0 : Int) := by rw [Int.tmod_eq_emod_of_nonneg (by omega)]; exact hkI
  have hDT : (d : Int).tmod 4096 = (D0 : Int) := by rw [Int.tmod_eq_emod_of_nonneg (by omega)]; exact hDI
  have hkW : IntKind.u16.wrap (k0 : Int) = (k0 : Int) := by rw [IntKind.wrap_u16]; omega
  have hDW : IntKind.u16.wrap (D0 : Int) = (D0 : Int) := by rw [IntKind.wrap_u16]; omega
  have hkV : IntKind.i64.wrap (k0 : Int) = (k0 : Int) := by rw [IntKind.wrap_i64]; omega
  have hDV : IntKind.i64.wrap (D0 : Int) = (D0 : Int) := by rw [IntKind.wrap_i64]; omega
  obtain ⟨k, hk⟩ : ∃ k, k = 1 + k0 := ⟨_, rfl⟩
  obtain ⟨D, hD⟩ : ∃ D, D = 1 + D0 := ⟨_, rfl⟩
  have hk1 : 1 + (k0 : Int) = (k : Int) := by omega
  have hD1 : 1 + (D0 : Int) = (D : Int) := by omega
  have hkV2 : IntKind.i64.wrap (k : Int) = (k : Int) := by rw [IntKind.wrap_i64]; omega
  have hDV2 : IntKind.i64.wrap (D : Int) = (D : Int) := by rw [IntKind.wrap_i64]; omega
  obtain ⟨k6, hk6⟩ : ∃ k6, k6 = 6 * k := ⟨_, rfl⟩
  have hk6I : 6 * (k : Int) = (k6 : Int) := by omega
  have hk6V : IntKind.i64.wrap (k6 : Int) = (k6 : Int) := by rw [IntKind.wrap_i64]; omega
  have hkb : 1 ≤ k ∧ k ≤ 4200 := by omega
  have hDb : 1 ≤ D ∧ D ≤ 4096 := by omega
  have hk6b : k6 ≤ 25200 := by omega
  clear hk0 hD0 hk hD hk6
  have hfl : (deepB o k k).length ≤ 65536 := by
    rw [deepB_length]
    cases o
    · simp only [Bool.false_eq_true, if_false]; omega
    · simp only [if_true]; omega
  have HF := hid (fun w => valid_at ⟨(deepB o k k).toArray⟩ D D rfl _ rfl _ _ (deep_full o k D (by omega) hfl) (by omega) (by omega) w)
  have HC := hid (fun w => valid_at ⟨(deepB o k (k - 1)).toArray⟩ D D rfl _ rfl _ _ (deep_cut o k D (by omega) hfl) (by omega) (by omega) w)
  have HB := hid (And.intro hkb hDb)
  go_enter Try.func6, Try.ntmps6
  go_wp2_with fail
  refine (awake12 _).mono ?_
  rintro e w1 ⟨rfl, hB1⟩
  go_wp2_with (first
    | (at_make
       go_must (refine wpList_make_own _ rfl (.const (.int .i64 0)) (.tmp 30) _ rfl w1.heap.size 5 i0 (.int .u8 0) 1 Try.underlying32 hi0 iz0 iz1 .i64 .i64 _ k6 rfl rfl rfl (by rw [iz2]; omega) (by unfold maxLen; omega) (Nat.le_refl _) ?_)
       intro w3 hown3 hgr3))
  have hB3 : Below w1.heap.size w1 w3 := (Below.refl _ _).grown hgr3 (Nat.le_refl _) (fun k hk => by cases hk)
  clear hgr3
  go_wp2_with fail
  go_loopw [9, 10] (fun sv i wr => ∃ (j : Nat) (A : Option Addr) (c : Nat), j ≤ k ∧ i = .int .i64 j ∧ sv = .slice A (opns o j).length c ∧ wr.ownsRow w1.heap.size 5 1 (.slice A (opns o j).length c) (opns o j).length (Lib.byteCells (opns o j)) ∧ Below w1.heap.size w1 wr) (fun _ i _ => k - (intOf i).toNat)
  case atStart => exact ⟨0, _, _, by omega, rfl, rfl, hown3, hB3⟩
  case round =>
    obtain ⟨j, A, c, hj, rfl, rfl, hown, hB⟩ := hrel
    clear hown3 hB3
    have hsz := hB.size
    have hjl : (opns o j).length ≤ 21000 := by
      rw [opns_length, opn_length]
      cases o
      · simp only [Bool.false_eq_true, if_false]; omega
      · simp only [if_true]; omega
    rcases Nat.lt_or_ge j k with hlt | hge
    · have hji : (j : Int) < (k : Int) := by omega
      have hjW := wrap_one j (by omega)
      have HS := hid (opns_succ o j)
      generalize hP : opns o j = P at *
      have HPP := hid hP
      clear hP
      cases o
      · go_wp2_with (at_builtin
                     go_must (refine wpList_append_more _ rfl (.tmp 40) (.tmp 41) _ rfl w1.heap.size 5 i0 _ 1 Try.underlying32 hi0 iz0 iz1 iz2 rfl (.slice A P.length c) P.length (Lib.byteCells P) rfl ?hown (some ⟨wr.heap.size, 0, none⟩) 1 1 [.int .u8 91] rfl ?hls rfl ?hone ?h63 ?hby ?hbs _ rfl ?_)
                     go_must (case hown => exact hown.alloc _)
                     go_must (case hls => exact lst_one _ _ _ _ rfl)
                     go_must (case hone => simp [Value.oneCell'])
                     go_must (case h63 => simp only [maxLen]; omega)
                     go_must (case hby => omega)
                     go_must (case hbs => simp; omega)
                     intro A2 c2 w2 hown2 hgr2 hat2)
        have hB2 : Below w1.heap.size w1 w2 := (hB.alloc hsz _).grown hgr2 (by simp; omega) (fun j hj => (hown.lt j hj).1)
        have e2 : opns false (j + 1) = P ++ [91] := HS.out
        go_roundw
        case rel => exact ⟨j + 1, A2, c2, by omega, by go_num, by rw [e2, List.length_append]; rfl, by rw [e2, List.length_append, Lib.byteCells_append]; exact hown2, hB2⟩
        case measure => simp [intOf]; omega
      · go_wp2_with (at_builtin
                     go_must (refine Lib.wpList_append_own_string _ rfl (.tmp 38) (.const (.string { data := #[123, 34, 97, 34, 58] })) _ _ rfl w1.heap.size 5 i0 Try.underlying32 Try.underlying9 hi0 iz0 iz1 iz2 (.slice A P.length c) P.length (Lib.byteCells P) rfl hown _ rfl ?h63 ?hby ?hbs ?_)
                     go_must (case h63 => simp only [maxLen]; show P.length + 5 ≤ _; omega)
                     go_must (case hby => show P.length + 5 ≤ _; omega)
                     go_must (case hbs => omega)
                     intro v2 w2 hown2 hgr2 hat2)
        obtain ⟨A2, c2, rfl⟩ := own_slice hown2
        have hB2 : Below w1.heap.size w1 w2 := hB.grown hgr2 (by omega) (fun j hj => (hown.lt j hj).1)
        have e2 : opns true (j + 1) = P ++ [123, 34, 97, 34, 58] := HS.out
        go_roundw
        case rel => exact ⟨j + 1, A2, c2, by omega, by go_num, by rw [e2, List.length_append]; rfl, by rw [e2, List.length_append, Lib.byteCells_append]; exact hown2, hB2⟩
        case measure => simp [intOf]; omega
    · obtain rfl : k = j := by omega
      cases o
      · have E0 := hid (show deepB false k 0 = opns false k by unfold deepB mid; simp)
        go_wp2_with fail
        go_loopw [9, 11] (fun sv i wr => ∃ (j : Nat) (A : Option Addr) (c : Nat), j ≤ k ∧ i = .int .i64 j ∧ sv = .slice A (deepB false k j).length c ∧ wr.ownsRow w1.heap.size 5 1 (.slice A (deepB false k j).length c) (deepB false k j).length (Lib.byteCells (deepB false k j)) ∧ Below w1.heap.size w1 wr) (fun _ i _ => k - (intOf i).toNat)
        case atStart => exact ⟨0, A, c, by omega, rfl, by rw [E0.out], by rw [E0.out]; exact hown, hB⟩
        case round =>
          clear hown hB hjl E0
          obtain ⟨j, A, c, hj, rfl, rfl, hown, hB⟩ := hrel
          have hsz := hB.size
          have hjl : (deepB false k j).length ≤ 25300 := by
            rw [deepB_length]
            simp only [Bool.false_eq_true, if_false, if_true]; have := HB.out.1; omega
          rcases Nat.lt_or_ge j k with hlt | hge
          · have hji : (j : Int) < (k : Int) := by omega
            have hjW := wrap_one j (by have := HB.out.1; omega)
            have HS := hid (deepB_succ false k j)
            generalize hP : deepB false k j = P at *
            have HPP := hid hP
            clear hP
            go_wp2_with (at_builtin
                         go_must (refine wpList_append_more _ rfl (.tmp 56) (.tmp 57) _ rfl w1.heap.size 5 i0 _ 1 Try.underlying32 hi0 iz0 iz1 iz2 rfl (.slice A P.length c) P.length (Lib.byteCells P) rfl ?hown (some ⟨wr.heap.size, 0, none⟩) 1 1 [.int .u8 93] rfl ?hls rfl ?hone ?h63 ?hby ?hbs _ rfl ?_)
                         go_must (case hown => exact hown.alloc _)
                         go_must (case hls => exact lst_one _ _ _ _ rfl)
                         go_must (case hone => simp [Value.oneCell'])
                         go_must (case h63 => simp only [maxLen]; omega)
                         go_must (case hby => omega)
                         go_must (case hbs => simp; omega)
                         intro A2 c2 w2 hown2 hgr2 hat2)
            have hB2 : Below w1.heap.size w1 w2 := (hB.alloc hsz _).grown hgr2 (by simp; omega) (fun j hj => (hown.lt j hj).1)
            have e2 : deepB false k (j + 1) = P ++ [93] := HS.out
            go_roundw
            case rel => exact ⟨j + 1, A2, c2, by omega, by go_num, by rw [e2, List.length_append]; rfl, by rw [e2, List.length_append, Lib.byteCells_append]; exact hown2, hB2⟩
            case measure => simp [intOf]; omega
          · obtain rfl : j = k := by omega
            have hkb := HB.out.1
            have hsucc := deepB_succ false j (j - 1)
            rw [show j - 1 + 1 = j from by omega] at hsucc
            have hlast : (deepB false j j).length = (deepB false j (j - 1)).length + 1 := by rw [hsucc, List.length_append]; rfl
            have hpos : 0 < (deepB false j (j - 1)).length := by
              rw [deepB_length]
              simp only [Bool.false_eq_true, if_false, if_true]; omega
            have hlst := own_lst hown
            have hcap := own_cap hown
            have hcv := run_string_lst (c := c) hlst (by omega)
            have hlst2 : ∀ W, Below wr.heap.size wr W → Lst W A (Lib.byteCells (deepB false j (j - 1))) := fun W hW => by
              have h1 := (hlst.below hW).take (deepB false j (j - 1)).length
              rw [hsucc, Lib.byteCells_append, List.take_append_of_le_length (by rw [Lib.byteCells_length]; exact Nat.le_refl _), List.take_of_length_le (by rw [Lib.byteCells_length]; exact Nat.le_refl _)] at h1
              exact h1
            have hcv2 : ∀ W, Below wr.heap.size wr W → (convert 32 9 (.slice A (deepB false j (j - 1)).length c)).run Try.prog W = .ok (.string ⟨(deepB false j (j - 1)).toArray⟩) W := fun W hW => run_string_lst (hlst2 W hW) hpos
            have HL := hid (And.intro hlst hlst2)
            have HCV2 := hid hcv2
            clear hlst hlst2 hcv2 hown hsucc
            generalize hX : deepB false j j = X at *
            generalize hY : deepB false j (j - 1) = Y at *
            clear hX hY
            have hYX : (X.length : Int) - 1 = (Y.length : Int) := by omega
            have hYV : IntKind.i64.wrap (Y.length : Int) = (Y.length : Int) := by rw [IntKind.wrap_i64]; omega
            have hY0 : (0 : Int) ≤ (Y.length : Int) := by omega
            have hYc : (Y.length : Int) ≤ (c : Int) := by omega
            have hXX : X.length = Y.length + 1 := hlast
            have HXX := hid hXX
            clear hXX hlast
            by_cases hDk : D < j
            · have dk : decide ((j : Int) > (D : Int)) = true := decide_eq_true (by omega)
              rw [if_pos hDk] at HF
              go_wp2_with fail
              refine (HF.out _).mono ?_
              rintro e w4 ⟨rfl, hB4⟩
              have hcvY := HCV2.out w4 hB4
              go_wp2_with fail
              refine (HC.out _).mono ?_
              rintro e w5 ⟨rfl, hB5⟩
              go_wp2_with fail
              go_ret
              exact ⟨by rfl, hB1.trans ((hB.trans ((hB4.trans (hB5.mono hB4.size)).mono hsz)).mono hB1.size)⟩
            · have dk : decide ((j : Int) > (D : Int)) = false := decide_eq_false (by omega)
              rw [if_neg hDk] at HF
              go_wp2_with fail
              refine (HF.out _).mono ?_
              rintro e w4 ⟨rfl, hB4⟩
              have hcvY := HCV2.out w4 hB4
              go_wp2_with fail
              refine (HC.out _).mono ?_
              rintro e w5 ⟨rfl, hB5⟩
              go_wp2_with fail
              go_ret
              exact ⟨by rfl, hB1.trans ((hB.trans ((hB4.trans (hB5.mono hB4.size)).mono hsz)).mono hB1.size)⟩
      · have E0 := hid (show deepB true k 0 = opns true k ++ [48] by unfold deepB mid; simp)
        have e3 : Lib.byteCells (opns true k ++ [48]) = Lib.byteCells (opns true k) ++ [.int .u8 48] := Lib.byteCells_append _ _
        have e4 : (opns true k ++ [48]).length = (opns true k).length + 1 := by rw [List.length_append]; rfl
        generalize hP : opns true k = P at *
        have HPP := hid hP
        clear hP
        go_wp2_with (at_builtin
                     go_must (refine wpList_append_more _ rfl (.tmp 44) (.tmp 45) _ rfl w1.heap.size 5 i0 _ 1 Try.underlying32 hi0 iz0 iz1 iz2 rfl (.slice A P.length c) P.length (Lib.byteCells P) rfl ?hown (some ⟨wr.heap.size, 0, none⟩) 1 1 [.int .u8 48] rfl ?hls rfl ?hone ?h63 ?hby ?hbs _ rfl ?_)
                     go_must (case hown => exact hown.alloc _)
                     go_must (case hls => exact lst_one _ _ _ _ rfl)
                     go_must (case hone => simp [Value.oneCell'])
                     go_must (case h63 => simp only [maxLen]; omega)
                     go_must (case hby => omega)
                     go_must (case hbs => simp; omega)
                     intro A2 c2 w2 hown2 hgr2 hat2)
        have hB2 : Below w1.heap.size w1 w2 := (hB.alloc hsz _).grown hgr2 (by simp; omega) (fun j hj => (hown.lt j hj).1)
        rw [← e3, ← e4] at hown2
        have HE4 := hid e4
        clear e3 e4
        go_wp2_with fail
        go_loopw [9, 11] (fun sv i wr => ∃ (j : Nat) (A : Option Addr) (c : Nat), j ≤ k ∧ i = .int .i64 j ∧ sv = .slice A (deepB true k j).length c ∧ wr.ownsRow w1.heap.size 5 1 (.slice A (deepB true k j).length c) (deepB true k j).length (Lib.byteCells (deepB true k j)) ∧ Below w1.heap.size w1 wr) (fun _ i _ => k - (intOf i).toNat)
        case atStart => exact ⟨0, A2, c2, by omega, rfl, by rw [E0.out, HE4.out], by rw [E0.out]; exact hown2, hB2⟩
        case round =>
          clear hown hB hown2 hB2 hgr2 hat2 hjl E0 HE4
          obtain ⟨j, A, c, hj, rfl, rfl, hown, hB⟩ := hrel
          have hsz := hB.size
          have hjl : (deepB true k j).length ≤ 25300 := by
            rw [deepB_length]
            simp only [Bool.false_eq_true, if_false, if_true]; have := HB.out.1; omega
          rcases Nat.lt_or_ge j k with hlt | hge
          · have hji : (j : Int) < (k : Int) := by omega
            have hjW := wrap_one j (by have := HB.out.1; omega)
            have HS := hid (deepB_succ true k j)
            generalize hP : deepB true k j = P at *
            have HPP := hid hP
            clear hP
            go_wp2_with (at_builtin
                         go_must (refine wpList_append_more _ rfl (.tmp 53) (.tmp 54) _ rfl w1.heap.size 5 i0 _ 1 Try.underlying32 hi0 iz0 iz1 iz2 rfl (.slice A P.length c) P.length (Lib.byteCells P) rfl ?hown (some ⟨wr.heap.size, 0, none⟩) 1 1 [.int .u8 125] rfl ?hls rfl ?hone ?h63 ?hby ?hbs _ rfl ?_)
                         go_must (case hown => exact hown.alloc _)
                         go_must (case hls => exact lst_one _ _ _ _ rfl)
                         go_must (case hone => simp [Value.oneCell'])
                         go_must (case h63 => simp only [maxLen]; omega)
                         go_must (case hby => omega)
                         go_must (case hbs => simp; omega)
                         intro A2 c2 w2 hown2 hgr2 hat2)
            have hB2 : Below w1.heap.size w1 w2 := (hB.alloc hsz _).grown hgr2 (by simp; omega) (fun j hj => (hown.lt j hj).1)
            have e2 : deepB true k (j + 1) = P ++ [125] := HS.out
            go_roundw
            case rel => exact ⟨j + 1, A2, c2, by omega, by go_num, by rw [e2, List.length_append]; rfl, by rw [e2, List.length_append, Lib.byteCells_append]; exact hown2, hB2⟩
            case measure => simp [intOf]; omega
          · obtain rfl : j = k := by omega
            have hkb := HB.out.1
            have hsucc := deepB_succ true j (j - 1)
            rw [show j - 1 + 1 = j from by omega] at hsucc
            have hlast : (deepB true j j).length = (deepB true j (j - 1)).length + 1 := by rw [hsucc, List.length_append]; rfl
            have hpos : 0 < (deepB true j (j - 1)).length := by
              rw [deepB_length]
              simp only [Bool.false_eq_true, if_false, if_true]; omega
            have hlst := own_lst hown
            have hcap := own_cap hown
            have hcv := run_string_lst (c := c) hlst (by omega)
            have hlst2 : ∀ W, Below wr.heap.size wr W → Lst W A (Lib.byteCells (deepB true j (j - 1))) := fun W hW => by
              have h1 := (hlst.below hW).take (deepB true j (j - 1)).length
              rw [hsucc, Lib.byteCells_append, List.take_append_of_le_length (by rw [Lib.byteCells_length]; exact Nat.le_refl _), List.take_of_length_le (by rw [Lib.byteCells_length]; exact Nat.le_refl _)] at h1
              exact h1
            have hcv2 : ∀ W, Below wr.heap.size wr W → (convert 32 9 (.slice A (deepB true j (j - 1)).length c)).run Try.prog W = .ok (.string ⟨(deepB true j (j - 1)).toArray⟩) W := fun W hW => run_string_lst (hlst2 W hW) hpos
            have HL := hid (And.intro hlst hlst2)
            have HCV2 := hid hcv2
            clear hlst hlst2 hcv2 hown hsucc
            generalize hX : deepB true j j = X at *
            generalize hY : deepB true j (j - 1) = Y at *
            clear hX hY
            have hYX : (X.length : Int) - 1 = (Y.length : Int) := by omega
            have hYV : IntKind.i64.wrap (Y.length : Int) = (Y.length : Int) := by rw [IntKind.wrap_i64]; omega
            have hY0 : (0 : Int) ≤ (Y.length : Int) := by omega
            have hYc : (Y.length : Int) ≤ (c : Int) := by omega
            have hXX : X.length = Y.length + 1 := hlast
            have HXX := hid hXX
            clear hXX hlast
            by_cases hDk : D < j
            · have dk : decide ((j : Int) > (D : Int)) = true := decide_eq_true (by omega)
              rw [if_pos hDk] at HF
              go_wp2_with fail
              refine (HF.out _).mono ?_
              rintro e w4 ⟨rfl, hB4⟩
              have hcvY := HCV2.out w4 hB4
              go_wp2_with fail
              refine (HC.out _).mono ?_
              rintro e w5 ⟨rfl, hB5⟩
              go_wp2_with fail
              go_ret
              exact ⟨by rfl, hB1.trans ((hB.trans ((hB4.trans (hB5.mono hB4.size)).mono hsz)).mono hB1.size)⟩
            · have dk : decide ((j : Int) > (D : Int)) = false := decide_eq_false (by omega)
              rw [if_neg hDk] at HF
              go_wp2_with fail
              refine (HF.out _).mono ?_
              rintro e w4 ⟨rfl, hB4⟩
              have hcvY := HCV2.out w4 hB4
              go_wp2_with fail
              refine (HC.out _).mono ?_
              rintro e w5 ⟨rfl, hB5⟩
              go_wp2_with fail
              go_ret
              exact ⟨by rfl, hB1.trans ((hB.trans ((hB4.trans (hB5.mono hB4.size)).mono hsz)).mono hB1.size)⟩

end Go.Proofs.Ytegoephanphnkaa
