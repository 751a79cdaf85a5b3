/- Walks: the laws of chapter 07: bits of pieces, awake. -/
import Derived.Test.YtlpnbkfcbamnbaaDoorMinmaxH
import Derived.Test.YtlpnbkfcbamnbaaDoorBitsP
set_option linter.unusedVariables false
set_option linter.unusedSimpArgs false
set_option maxRecDepth 100000
namespace Go.Proofs.YtlpnbkfcbamnbaaDoor
open Go.RowKit L

namespace L
/-- Bits of pieces, behind some, 4000 at most. -/
def pieceGo : List Bool → List (Bool × Nat) → List Bool
  | out, [] => out
  | out, (b, n) :: l => pieceGo (out ++ List.replicate (min n (4000 - out.length)) b) l
def pieceBits (l : List (Bool × Nat)) : List Bool := pieceGo [] (l.take 400)
theorem pieceGo_length : ∀ (l : List (Bool × Nat)) (out : List Bool), out.length ≤ 4000 → (pieceGo out l).length ≤ 4000
  | [], out, h => h
  | (b, n) :: l, out, h => pieceGo_length l _ (by rw [List.length_append, List.length_replicate]; omega)
theorem pieceBits_length (l : List (Bool × Nat)) : (pieceBits l).length ≤ 4000 := pieceGo_length _ _ (by simp)
theorem pieceGo_append : ∀ (l m : List (Bool × Nat)) (out : List Bool), pieceGo out (l ++ m) = pieceGo (pieceGo out l) m
  | [], m, out => rfl
  | (b, n) :: l, m, out => pieceGo_append l m _
end L
def pcCells (l : List (Bool × Nat)) : List Value := l.flatMap fun o => [.bool o.1, .int .u16 (o.2 : Nat)]
theorem pcCells_get : ∀ (l : List (Bool × Nat)) (k : Nat) (h : k < l.length), (pcCells l)[k * 2]? = some (.bool l[k].1) ∧ (pcCells l)[k * 2 + 1]? = some (.int .u16 (l[k].2 : Nat))
  | o :: l, 0, _ => by simp [pcCells]
  | o :: l, k + 1, h => by
    have ih := pcCells_get l k (by simpa using h)
    rw [show (k + 1) * 2 = k * 2 + 2 from by omega]
    simpa [pcCells] using ih
theorem pcCells_length (l : List (Bool × Nat)) : (pcCells l).length = 2 * l.length := by
  induction l with
  | nil => rfl
  | cons o l ih => simp [pcCells] at ih ⊢; omega

set_option maxHeartbeats 1000000 in
theorem pbits_any (A : Option Addr) (c : Nat) (l : List (Bool × Nat)) (w : World) (hl : Lst w A (pcCells l)) (hx : ∀ o ∈ l, o.2 < 65536) (hn : l.length ≤ maxLen) :
    Calls Tryd.prog 49 #[.slice A l.length c] w fun e w' => ∃ A1 c1, e = .returned (.slice A1 (pieceBits l).length c1) ∧ Lst w' A1 (bools (pieceBits l)) ∧ Below w.heap.size w w' := by
  obtain ⟨i0, hi0, iz0, iz1, iz2⟩ := info_parts Tryd.infoBool
  have HFIN := hid (show ∀ i out, i ≤ l.length → i ≤ 400 → (i = l.length ∨ i = 400) → out = pieceGo [] (l.take i) → out = pieceBits l from fun i out h1 h2 h3 h4 => by
    rw [h4]; unfold pieceBits
    congr 1
    rcases h3 with h3 | h3
    · rw [h3, List.take_length, List.take_of_length_le (by omega)]
    · rw [h3])
  go_enter Tryd.func49, Tryd.ntmps49
  go_wp2_with fail
  go_loopw [3, 4] (fun ov iv wr => ∃ (i : Nat) (out : List Bool) (A1 : Option Addr) (c1 : Nat), i ≤ l.length ∧ i ≤ 400 ∧ iv = .int .i64 (i : Nat) ∧ ov = .slice A1 out.length c1 ∧ out.length ≤ 4000 ∧ out = pieceGo [] (l.take i) ∧
    wr.ownsRow w.heap.size 4 1 (.slice A1 out.length c1) out.length (bools out) ∧ Below w.heap.size w wr) (fun _ iv _ => 400 - (intOf iv).toNat)
  case atStart => exact ⟨0, [], none, 0, by omega, by omega, rfl, rfl, by simp, rfl, World.ownsRow_nil _ _ _ _, Below.refl _ _⟩
  case round =>
    obtain ⟨i, out, A1, c1, hi, hi4, rfl, rfl, ho4, hout, hown, hB⟩ := hrel
    have HO := hid hout
    clear hout
    have hsz := hB.size
    have hiw := wrapi_one i (by omega)
    by_cases hend : i = l.length ∨ i = 400
    · have HF := hid (HFIN.out i out hi hi4 hend HO.out)
      rcases hend with he | he
      · have g1 : ¬ ((i : Int) < (l.length : Int)) := by omega
        go_wp2_with fail
        go_ret
        first | exact ⟨A1, ⟨c1, by rw [← HF.out]; rfl⟩, by rw [← HF.out]; exact own_lst hown, hB⟩ | exact ⟨A1, c1, by rw [← HF.out]; rfl, by rw [← HF.out]; exact own_lst hown, hB⟩
      · subst he
        by_cases g0 : 400 < l.length
        · have g1 : (400 : Int) < (l.length : Int) := by omega
          go_wp2_with fail
          go_ret
          first | exact ⟨A1, ⟨c1, by rw [← HF.out]; rfl⟩, by rw [← HF.out]; exact own_lst hown, hB⟩ | exact ⟨A1, c1, by rw [← HF.out]; rfl, by rw [← HF.out]; exact own_lst hown, hB⟩
        · have g1 : ¬ ((400 : Int) < (l.length : Int)) := by omega
          go_wp2_with fail
          go_ret
          first | exact ⟨A1, ⟨c1, by rw [← HF.out]; rfl⟩, by rw [← HF.out]; exact own_lst hown, hB⟩ | exact ⟨A1, c1, by rw [← HF.out]; rfl, by rw [← HF.out]; exact own_lst hown, hB⟩
    · have hlt : i < l.length := by omega
      have g1 : (i : Int) < (l.length : Int) := by omega
      have g2 : (i : Int) < 400 := by omega
      have hi0' : (0 : Int) ≤ (i : Int) := by omega
      obtain ⟨ab, ao, rfl, had, hcl⟩ := hl.lit (by rw [pcCells_length]; omega)
      obtain ⟨q0, q1⟩ := pcCells_get l i hlt
      have hN := hx _ (List.getElem_mem hlt)
      have HT := hid (show ∀ m, m = min l[i].2 (4000 - out.length) → out ++ List.replicate m l[i].1 = pieceGo [] (l.take (i + 1)) from fun m hm => by
        rw [List.take_succ_eq_append_getElem hlt, pieceGo_append, ← HO.out, hm]; rfl)
      have kb0 := fun W (hW : Below w.heap.size w W) => (hW.cell (p := ⟨ab, ao + i * 2, none⟩) had).trans (hcl _ _ q0)
      have kn0 := fun W (hW : Below w.heap.size w W) => (show W.cell? ⟨ab, ao + i * 2 + 1, none⟩ = _ from (hW.cell (p := ⟨ab, ao + (i * 2 + 1), none⟩) had).trans (hcl _ _ q1))
      have KB := hid kb0
      have KN := hid kn0
      clear kb0 kn0 q0 q1 hcl hend
      generalize l[i].1 = b at *
      generalize l[i].2 = n at *
      have hNw : IntKind.i64.wrap (n : Int) = (n : Int) := by rw [IntKind.wrap_i64]; omega
      go_wp2_with fail
      go_loopw [3, 5] (fun ov kv wr2 => ∃ (k : Nat) (A2 : Option Addr) (c2 : Nat), k ≤ min n (4000 - out.length) ∧ kv = .int .i64 (k : Nat) ∧ ov = .slice A2 (out ++ List.replicate k b).length c2 ∧
        wr2.ownsRow w.heap.size 4 1 (.slice A2 (out ++ List.replicate k b).length c2) (out ++ List.replicate k b).length (bools (out ++ List.replicate k b)) ∧ Below w.heap.size w wr2) (fun _ kv _ => n - (intOf kv).toNat)
      case atStart => exact ⟨0, A1, c1, by omega, rfl, by simp, by simpa using hown, hB⟩
      case round =>
        obtain ⟨k, A2, c2, hk, rfl, rfl, hown2, hB2⟩ := hrel
        have hz2 := hB2.size
        have kb := KB.out _ hB2
        have kn := KN.out _ hB2
        have hkw := wrapi_one k (by omega)
        have hlh : (out ++ List.replicate k b).length = out.length + k := by simp
        have HH2 := hid (show (out ++ List.replicate k b) ++ [b] = out ++ List.replicate (k + 1) b by rw [List.append_assoc, ← List.replicate_succ'])
        have HTK := hid (HT.out k)
        obtain ⟨P, hP⟩ : ∃ P, P = out.length + k := ⟨_, rfl⟩
        rw [hlh, ← hP] at hown2 ⊢
        have HPE := hid hP
        rw [← hP] at hlh
        clear hP
        generalize out ++ List.replicate k b = o2 at *
        by_cases h1 : k < n
        · have d1 : (k : Int) < (n : Int) := by omega
          by_cases h2 : P < 4000
          · have d2 : (P : Int) < 4000 := by omega
            go_wp2_with (first
              | (at_builtin
                 go_must (refine wpList_append_more _ rfl (.tmp 31) (.tmp 37) _ rfl w.heap.size 4 i0 _ 1 Tryd.underlying42 hi0 iz0 iz1 iz2 rfl (.slice A2 P c2) P (bools o2) rfl ?hown (some ⟨wr.heap.size, 0, none⟩) 1 1 [.bool b] rfl ?hls rfl ?h1 ?h63 ?hby ?hbs _ rfl ?_)
                 go_must (case hown => exact hown2.alloc _)
                 go_must (case hls => exact lst_one _ _ _ _ rfl)
                 go_must (case h1 => simp [Value.oneCell'])
                 go_must (case h63 => simp only [maxLen]; omega)
                 go_must (case hby => omega)
                 go_must (case hbs => simp; omega)
                 intro A6 c6 w6 hown6 hgr6 hat6)
              | fail)
            have hB6 : Below w.heap.size w w6 := (hB2.alloc hz2 _).grown hgr6 (by simp; omega) (fun j hj => (hown2.lt j hj).1)
            have hl6 : (o2 ++ [b]).length = P + 1 := by simp [hlh]
            rw [HH2.out] at hl6
            go_roundw
            case rel => exact ⟨k + 1, A6, c6, by have := HPE.out; omega, by go_num, by rw [hl6], by rw [hl6, ← HH2.out, bools_append]; exact hown6, hB6⟩
            case measure => simp [intOf]; omega
          · have d2 : ¬ ((P : Int) < 4000) := by omega
            have HE := hid (HTK.out (by have := HPE.out; omega))
            go_wp2_with fail
            go_roundw
            case rel => exact ⟨i + 1, o2, A2, c2, by omega, by omega, by go_num, by rw [hlh], by rw [hlh]; have := HPE.out; omega, HE.out, by rw [hlh]; exact hown2, hB2⟩
            case measure => simp [intOf]; omega
        · have d1 : ¬ ((k : Int) < (n : Int)) := by omega
          have HE := hid (HTK.out (by omega))
          go_wp2_with fail
          go_roundw
          case rel => exact ⟨i + 1, o2, A2, c2, by omega, by omega, by go_num, by rw [hlh], by rw [hlh]; have := HPE.out; omega, HE.out, by rw [hlh]; exact hown2, hB2⟩
          case measure => simp [intOf]; omega
end Go.Proofs.YtlpnbkfcbamnbaaDoor
