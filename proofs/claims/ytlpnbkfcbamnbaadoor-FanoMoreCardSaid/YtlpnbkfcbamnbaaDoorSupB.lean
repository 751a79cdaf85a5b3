/- Jumps to labels of one scope, where the run also falls through the labels: each label's pass is walked once. No program. -/
import Derived.Test.YtlpnbkfcbamnbaaDoorSup
set_option linter.unusedVariables false
set_option linter.unusedSimpArgs false
namespace Go.Proofs.YtlpnbkfcbamnbaaDoor
open Go.RowKit

section
variable {P : Program} {a : Act} {w : World} {Q : Exit → Act → World → Prop}

/-- One label: what holds there, and a measure; 'first' may fall through the label by the first hypothesis. -/
theorem wp_scope_fall {c B : Code} (l : Nat) (J : Act → World → Prop) (μ : Act → World → Nat) (hf : findLabel c l = some (.seq .skip B))
    (pass : ∀ a w, J a w → B.wp P (Exit.jump l (fun a' w' => J a' w' ∧ μ a' w' < μ a w) Q) a w)
    (first : (∀ a w, J a w → B.wp P (Exit.jump l J Q) a w) → c.wp P (Exit.jump l J Q) a w) : (Code.scope c).wp P Q a w := by
  refine wp_scope_jumps l J μ hf (first fun a w h => ?_) (fun a w h => wp_seq (wp_skip (pass a w h)))
  refine wp_mono (pass a w h) (fun e a' w' he => ?_)
  cases e with
  | goto l' => exact ⟨he.1, he.2.1⟩
  | _ => exact he

/-- Several labels. A pass may fall through a later label, too: what holds there, the measure lowered, is enough. -/
theorem wp_scope_falls {c : Code} (J : Nat → Act → World → Prop) (μ : Nat → Act → World → Nat) (hl : ∀ l a w, J l a w → ∃ B, findLabel c l = some (.seq .skip B))
    (pass : ∀ l B, findLabel c l = some (.seq .skip B) → ∀ a w, J l a w →
      (∀ l' B', findLabel c l' = some (.seq .skip B') → ∀ a' w', J l' a' w' → μ l' a' w' < μ l a w → B'.wp P (Exit.jumps (fun l'' a'' w'' => J l'' a'' w'' ∧ μ l'' a'' w'' < μ l a w) Q) a' w') →
      B.wp P (Exit.jumps (fun l' a' w' => J l' a' w' ∧ μ l' a' w' < μ l a w) Q) a w)
    (first : (∀ l B, findLabel c l = some (.seq .skip B) → ∀ a w, J l a w → B.wp P (Exit.jumps J Q) a w) → c.wp P (Exit.jumps J Q) a w) : (Code.scope c).wp P Q a w := by
  have key : ∀ n l B, findLabel c l = some (.seq .skip B) → ∀ a w, μ l a w = n → J l a w → B.wp P (Exit.jumps (fun l' a' w' => J l' a' w' ∧ μ l' a' w' < μ l a w) Q) a w := by
    intro n
    induction n using Nat.strongRecOn with
    | _ n ih =>
      intro l B hB a w hn hJ
      refine pass l B hB a w hJ (fun l' B' hB' a' w' hJ' hlt => ?_)
      refine wp_mono (ih _ (by omega) l' B' hB' a' w' rfl hJ') (fun e a'' w'' he => ?_)
      cases e with
      | goto l'' => exact ⟨he.1, Nat.lt_trans he.2 hlt⟩
      | _ => exact he
  refine wp_scope_many J μ (fun l a w h => by obtain ⟨B, hB⟩ := hl l a w h; exact ⟨_, hB⟩) ?_ ?_
  · refine first (fun l B hB a w hJ => wp_mono (key _ l B hB a w rfl hJ) (fun e a' w' he => ?_))
    cases e with
    | goto l' => exact he.1
    | _ => exact he
  · intro l rest hf a w hJ
    obtain ⟨B, hB⟩ := hl l a w hJ
    rw [hB] at hf
    obtain rfl := Option.some.inj hf
    exact wp_seq (wp_skip (key _ l B hB a w rfl hJ))
end

end Go.Proofs.YtlpnbkfcbamnbaaDoor
