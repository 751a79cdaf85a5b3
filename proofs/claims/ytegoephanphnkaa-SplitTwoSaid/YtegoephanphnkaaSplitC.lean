/- Walks: a file's records. -/
import Derived.Test.YtegoephanphnkaaSplitB
import Derived.Test.YtegoephanphnkaaLScanD
set_option linter.unusedVariables false
set_option linter.unusedSimpArgs false
set_option maxRecDepth 100000
namespace Go.Proofs.Ytegoephanphnkaa
open Go.RowKit Go.Shelf L

theorem Try.infoRec : (Try.prog.info? 47).map (fun i => (i.zero, i.size, i.bytes)) = some (some (.agg #[.int .i64 0, .int .i64 0, .int .i64 0, .int .i64 0]), 4, 32) := by kernel_rfl

/-- A record: where it is, its verdict, and what is told with it. -/
structure RecN where
  a : Nat
  b : Nat
  v : Nat
  p : Nat

def recN (l : List Nat) (deep : Nat) (p : Nat × Nat) : RecN := ⟨p.1, p.2, (verd (sub_ l p.1 p.2) deep).1, (verd (sub_ l p.1 p.2) deep).2⟩
def recs (l : List Nat) (deep : Nat) : List RecN := (spans l).map (recN l deep)
def recV (r : RecN) : List Value := [.int .i64 (r.a : Nat), .int .i64 (r.b : Nat), .int .i64 (r.v : Nat), .int .i64 (r.p : Nat)]
def recC (rs : List RecN) : List Value := rs.flatMap recV
theorem recC_snoc (rs : List RecN) (r : RecN) : recC (rs ++ [r]) = recC rs ++ recV r := by unfold recC; rw [List.flatMap_append]; simp
theorem recC_length (rs : List RecN) : (recC rs).length = rs.length * 4 := by
  induction rs with
  | nil => rfl
  | cons r rs ih => unfold recC at *; simp only [List.flatMap_cons, List.length_append, List.length_cons, ih]; show 4 + _ = _; omega
theorem flat_get {α : Type} {f : α → List Value} {k : Nat} (hf : ∀ x, (f x).length = k) : ∀ (xs : List α) (i j : Nat) (hi : i < xs.length), j < k → (xs.flatMap f)[i * k + j]? = (f xs[i])[j]?
  | [], i, j, hi, hj => by simp at hi
  | x :: xs, 0, j, hi, hj => by
    rw [Nat.zero_mul, Nat.zero_add, List.flatMap_cons, List.getElem?_append_left (by rw [hf]; exact hj)]; rfl
  | x :: xs, i + 1, j, hi, hj => by
    have hi' : i < xs.length := by simpa using hi
    have ih := flat_get hf xs i j hi' hj
    rw [List.flatMap_cons, List.getElem?_append_right (by rw [hf, Nat.add_mul]; omega), hf, show (i + 1) * k + j - k = i * k + j from by rw [Nat.add_mul]; omega, ih]
    rfl
/-- The cells of a place, of a record. -/
theorem span_cells {w : World} {A : Option Addr} {xs : List (Nat × Nat)} (h : Lst w A (spC xs)) {i : Nat} (hi : i < xs.length) : ∃ g o, A = some ⟨g, o, none⟩ ∧ w.cell? ⟨g, o + i * 2, none⟩ = some (.int .i64 (xs[i].1 : Nat)) ∧ w.cell? ⟨g, o + i * 2 + 1, none⟩ = some (.int .i64 (xs[i].2 : Nat)) := by
  obtain ⟨g, o, rfl, _, hc⟩ := h.lit (by rw [spC_length]; omega)
  refine ⟨g, o, rfl, hc (i * 2) _ ?_, hc (i * 2 + 1) _ ?_⟩
  · have := flat_get (f := fun p : Nat × Nat => [Value.int .i64 (p.1 : Nat), .int .i64 (p.2 : Nat)]) (k := 2) (fun _ => rfl) xs i 0 hi (by omega)
    exact this
  · exact flat_get (f := fun p : Nat × Nat => [Value.int .i64 (p.1 : Nat), .int .i64 (p.2 : Nat)]) (k := 2) (fun _ => rfl) xs i 1 hi (by omega)
theorem rec_cells {w : World} {A : Option Addr} {xs : List RecN} (h : Lst w A (recC xs)) {i : Nat} (hi : i < xs.length) : ∃ g o, A = some ⟨g, o, none⟩ ∧ w.cell? ⟨g, o + i * 4, none⟩ = some (.int .i64 (xs[i].a : Nat)) ∧ w.cell? ⟨g, o + i * 4 + 1, none⟩ = some (.int .i64 (xs[i].b : Nat)) ∧ w.cell? ⟨g, o + i * 4 + 2, none⟩ = some (.int .i64 (xs[i].v : Nat)) ∧ w.cell? ⟨g, o + i * 4 + 3, none⟩ = some (.int .i64 (xs[i].p : Nat)) := by
  obtain ⟨g, o, rfl, _, hc⟩ := h.lit (by rw [recC_length]; omega)
  exact ⟨g, o, rfl, hc (i * 4) _ (flat_get (f := recV) (k := 4) (fun _ => rfl) xs i 0 hi (by omega)), hc (i * 4 + 1) _ (flat_get (f := recV) (k := 4) (fun _ => rfl) xs i 1 hi (by omega)),
    hc (i * 4 + 2) _ (flat_get (f := recV) (k := 4) (fun _ => rfl) xs i 2 hi (by omega)), hc (i * 4 + 3) _ (flat_get (f := recV) (k := 4) (fun _ => rfl) xs i 3 hi (by omega))⟩
theorem own_mono {w : World} {base base' : Nat} {e : TypeId} {size : Nat} {v : Value} {n : Nat} {xs : List Value} (h : w.ownsRow base e size v n xs) (hb : base' ≤ base) : w.ownsRow base' e size v n xs :=
  ⟨h.1, h.2.imp id fun ⟨g, cap, cur, h1, h2, h3⟩ => ⟨g, cap, cur, h1, Nat.le_trans hb h2, h3⟩⟩
theorem own_lst2 {w : World} {base size : Nat} {e : TypeId} {A : Option Addr} {n c : Nat} {xs : List Value} (h : w.ownsRow base e size (.slice A n c) n xs) (hs : 0 < size) : Lst w A xs := Lst.of_own h hs
theorem cell_four_at (w : World) (x y z u : Value) (e : TypeId) (k : Nat) (hk : k = w.heap.size) : ∀ j v, [x, y, z, u][j]? = some v → (w.alloc (.cells #[x, y, z, u] e)).cell? ((⟨k, 0, none⟩ : Addr).add j) = some v := by
  subst hk
  intro j v hv
  rw [add_zero_, (BlkIs.new w e #[x, y, z, u]).cell j]
  simpa using hv
set_option maxHeartbeats 4000000 in
theorem records_all (s : ByteArray) (deep : Nat) (w : World) (hs : s.size ≤ 1048576) (h1 : 1 ≤ deep) (h2 : deep ≤ 4096) (hn : (spans (nb s)).length ≤ 4096) :
    Calls Try.prog 18 #[.string s, .int .i64 (deep : Nat)] w fun e w' => ∃ A c, e = .returned (.tuple #[.slice A (recs (nb s) deep).length c, .int .i64 0]) ∧ w'.ownsRow w.heap.size 47 4 (.slice A (recs (nb s) deep).length c) (recs (nb s) deep).length (recC (recs (nb s) deep)) ∧ Below w.heap.size w w' := by
  obtain ⟨i0, hi, hz0, hz1, hz2⟩ := info_parts Try.infoRec
  have HL := hid (nb_length s)
  have d1 : decide ((deep : Int) < 1) = false := decide_eq_false (by omega)
  have d1N : ¬ (deep < 1) := by omega
  have d2 : decide ((deep : Int) > 4096) = false := decide_eq_false (by omega)
  have d2N : ¬ (4096 < deep) := by omega
  have LI := hid (fun W => (lines_all s W hs).mono (R' := fun e w' => ∃ A c, e = .returned (.tuple #[.slice A (spans (nb s)).length c, .int .i64 0]) ∧ Lst w' A (spC (spans (nb s))) ∧ Below W.heap.size W w') (fun e w' ⟨h3, h4⟩ => by
    rcases h3 with ⟨_, A, c, h5, h6⟩ | ⟨h5, _⟩
    · exact ⟨A, c, h5, own_lst2 h6 (by omega), h4⟩
    · omega))
  have HIN := hid (fun p (h : p ∈ spans (nb s)) => (show p.1 ≤ p.2 ∧ p.2 ≤ s.size from by have := spans_in h; rw [HL.out] at this; exact this))
  have hrl : (recs (nb s) deep).length = (spans (nb s)).length := by unfold recs; rw [List.length_map]
  rw [hrl]
  have HRE := hid (show recs (nb s) deep = (spans (nb s)).map (recN (nb s) deep) from rfl)
  obtain ⟨X, hX⟩ : ∃ X, X = spans (nb s) := ⟨_, rfl⟩
  rw [← hX] at LI HIN HRE hn ⊢
  clear hX hrl
  go_enter Try.func18, Try.ntmps18
  go_wp2_with fail
  (with_reducible refine (LI.out _).mono ?_)
  rintro e w1 ⟨A, c, rfl, hlst, hB1⟩
  go_wp2_with fail
  go_loopw [8, 30] (fun ov iv wr => ∃ (j : Nat) (Ao : Option Addr) (co : Nat), iv = .int .i64 (j : Nat) ∧ ov = .slice Ao j co ∧ j ≤ X.length ∧ wr.ownsRow w1.heap.size 47 4 (.slice Ao j co) j (recC ((X.take j).map (recN (nb s) deep))) ∧ Below w1.heap.size w1 wr) (fun _ iv _ => X.length - (intOf iv).toNat)
  case atStart => exact ⟨0, none, 0, rfl, rfl, by omega, World.ownsRow_nil _ _ _ _, Below.refl _ _⟩
  case round =>
    obtain ⟨j, Ao, co, rfl, rfl, hj, hown, hB⟩ := hrel
    have hsz := hB.size
    rcases Nat.lt_or_ge j X.length with hlt | hge
    · have hji : (j : Int) < (X.length : Int) := by omega
      have hji2 : decide ((j : Int) < (X.length : Int)) = true := decide_eq_true hji
      have hj0 : (0 : Int) ≤ (j : Int) := by omega
      have hjW := wrap_one j (by omega)
      obtain ⟨g, o, rfl, k0, k1⟩ := span_cells (hlst.below hB) hlt
      have hin := HIN.out X[j] (List.getElem_mem hlt)
      have HT := hid (show (X.take (j + 1)).map (recN (nb s) deep) = (X.take j).map (recN (nb s) deep) ++ [recN (nb s) deep X[j]] by rw [List.take_succ_eq_append_getElem hlt, List.map_append]; rfl)
      obtain ⟨p, hp⟩ : ∃ p, p = X[j] := ⟨_, rfl⟩
      rw [← hp] at k0 k1 hin HT
      clear hp
      obtain ⟨p1, p2⟩ := p
      dsimp only at k0 k1 hin
      have hp12 : (p1 : Int) ≤ (p2 : Int) := by omega
      have hp2s : (p2 : Int) ≤ (s.size : Int) := by omega
      have hp10 : (0 : Int) ≤ (p1 : Int) := by omega
      have VA := hid (fun W => valid_any (s.extract p1 p2) deep W h1 h2)
      have HX := hid (show nb (s.extract p1 p2) = sub_ (nb s) p1 p2 from nb_ext s p1 p2)
      have HRN := hid (show recN (nb s) deep (p1, p2) = ⟨p1, p2, (verd (nb (s.extract p1 p2)) deep).1, (verd (nb (s.extract p1 p2)) deep).2⟩ by rw [HX.out]; rfl)
      obtain ⟨vd, hvd⟩ : ∃ vd, vd = verd (nb (s.extract p1 p2)) deep := ⟨_, rfl⟩
      rw [← hvd] at VA HRN
      clear hvd
      obtain ⟨v, pl⟩ := vd
      have bX := BlkIs.new wr 44 #[.int .i64 (p1 : Nat), .int .i64 (p2 : Nat)]
      go_wp2_with fail
      (with_reducible refine (VA.out _).mono ?_)
      rintro e w3 ⟨rfl, hB3⟩
      have bX3 := bX.below hB3
      have x0 := bX3.cell 0
      have x1 := bX3.cell 1
      have hsz3 := hB3.size
      have hown3 : w3.ownsRow w1.heap.size 47 4 (.slice Ao j co) j (recC ((X.take j).map (recN (nb s) deep))) := own_only (S := fun _ => False) (hown.alloc _) (Only.of_below hB3) (fun _ _ h => h)
      have hBB3 := (hB.alloc hsz (.cells #[.int .i64 (p1 : Nat), .int .i64 (p2 : Nat)] 44)).trans (hB3.mono (by simp; omega))
      have hs3 : w1.heap.size ≤ w3.heap.size := hBB3.size
      go_wp2_with (at_builtin
                   go_must (refine wpList_append_own_at _ rfl (.tmp 46) (.tmp 51) 36 rfl w1.heap.size 47 i0 _ 4 32 Try.underlying36 hi hz0 hz1 hz2 rfl (by decide) (.slice Ao j co) j _ rfl (hown3.alloc _) ⟨w3.heap.size, 0, none⟩ 1 1 [.int .i64 (p1 : Nat), .int .i64 (p2 : Nat), .int .i64 (v : Nat), .int .i64 (pl : Nat)] rfl rfl (cell_four_at _ _ _ _ _ _ _ rfl) ?hone ?h63 ?hby ?hbs ?_)
                   go_must (case hone => simp [Value.oneCell'])
                   go_must (case h63 => simp only [maxLen]; omega)
                   go_must (case hby => omega)
                   go_must (case hbs => simp; omega)
                   intro v2 w4 hown4 hgr4 _ hat4)
      obtain ⟨A4, c4, rfl⟩ := own_slice hown4
      have hB4 : Below w1.heap.size w1 w4 := (hBB3.alloc hs3 _).grown hgr4 (by simp; omega) (fun k hk => (hown3.lt k hk).1)
      go_roundw
      case rel => exact ⟨j + 1, A4, c4, by go_num, rfl, by omega, by rw [HT.out, recC_snoc, HRN.out]; exact hown4, hB4⟩
      case measure => simp [intOf]; omega
    · obtain rfl : j = X.length := by omega
      go_wp2_with fail
      go_ret2
      exact ⟨Ao, co, rfl, by rw [HRE.out]; rw [List.take_length] at hown; exact own_mono hown hB1.size, hB1.trans (hB.mono hB1.size)⟩

end Go.Proofs.Ytegoephanphnkaa
