/- A run reckoned beforehand: TopStage at every target. No conditions. -/
import Derived.Test.YtmlpimckfneliaaGreatGo1
import Derived.Test.YtmlpimckfneliaaGreatGo2
import Derived.Test.YtmlpimckfneliaaGreatGo3
import Derived.Test.YtmlpimckfneliaaGreatGo4
namespace Go.Proofs.YtmlpimckfneliaaGreat.Ev
theorem yesT : (List.range' 0 64).all (fun t => topB true t) = true := by decide +kernel
theorem yesAll : ∀ t, t < 64 → topOk true t := fun t h => topB_ok (all_range yesT t (Nat.zero_le _) (by omega))
theorem noAll : ∀ t, t < 64 → topOk false t := fun t h => topB_ok (by
  rcases Nat.lt_or_ge t 16 with h1 | h1
  · exact noQ0 t (Nat.zero_le _) (by omega)
  · rcases Nat.lt_or_ge t 32 with h2 | h2
    · exact noQ1 t h1 (by omega)
    · rcases Nat.lt_or_ge t 48 with h3 | h3
      · exact noQ2 t h2 (by omega)
      · exact noQ3 t h3 (by omega))
end Go.Proofs.YtmlpimckfneliaaGreat.Ev
