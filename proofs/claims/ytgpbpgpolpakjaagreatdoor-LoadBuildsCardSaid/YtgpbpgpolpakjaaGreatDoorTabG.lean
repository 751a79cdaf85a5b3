/- Walks: a table is read out of bytes. -/
import Derived.Test.YtgpbpgpolpakjaaGreatDoorTabE
import Derived.Test.YtgpbpgpolpakjaaGreatDoorSemiX
set_option linter.unusedVariables false
set_option linter.unusedSimpArgs false
set_option maxRecDepth 100000
namespace Go.Proofs.YtgpbpgpolpakjaaGreatDoor
open Go.RowKit Go.Shelf L

theorem Tryz.infoEnt : (Tryz.prog.info? 113).map (fun i => (i.zero, i.size, i.bytes)) = some (some (.agg #[.int .i64 0, .int .i64 0, .int .i64 0, .int .i64 0, .string ⟨#[]⟩]), 5, 48) := by kernel_rfl
theorem own_base5 {w : World} {base size : Nat} {e : TypeId} {A : Option Addr} {n c : Nat} {xs : List Value} (h : w.ownsRow base e size (.slice A n c) n xs) : ∀ ad, A = some ad → base ≤ ad.block := by
  intro ad hA
  subst hA
  rcases h.2 with ⟨hv, _⟩ | ⟨g, cap, cur, hv, hb, _⟩
  · cases hv
  · cases hv; exact hb
theorem cell_five_at (w : World) (x y z u v : Value) (e : TypeId) (k : Nat) (hk : k = w.heap.size) : ∀ j r, [x, y, z, u, v][j]? = some r → (w.alloc (.cells #[x, y, z, u, v] e)).cell? ((⟨k, 0, none⟩ : Addr).add j) = some r := by
  subst hk
  intro j r hr
  rw [add_zero_, (BlkIs.new w e #[x, y, z, u, v]).cell j]
  simpa using hr
end Go.Proofs.YtgpbpgpolpakjaaGreatDoor
