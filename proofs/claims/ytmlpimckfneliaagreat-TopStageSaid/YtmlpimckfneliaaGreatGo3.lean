/- A run reckoned beforehand: TopStage at the targets 32 to 47. No conditions. -/
import Derived.Test.YtmlpimckfneliaaGreatGn
namespace Go.Proofs.YtmlpimckfneliaaGreat.Ev
theorem noT8 : (List.range' 32 4).all (fun t => topB false t) = true := by decide +kernel
theorem noT9 : (List.range' 36 4).all (fun t => topB false t) = true := by decide +kernel
theorem noT10 : (List.range' 40 4).all (fun t => topB false t) = true := by decide +kernel
theorem noT11 : (List.range' 44 4).all (fun t => topB false t) = true := by decide +kernel
theorem noQ2 : ∀ t, 32 ≤ t → t < 32 + 16 → topB false t = true := all_two (m := 4) (n := 12) (all_range noT8) (all_two (m := 4) (n := 8) (all_range noT9) (all_two (m := 4) (n := 4) (all_range noT10) (all_range noT11)))
end Go.Proofs.YtmlpimckfneliaaGreat.Ev
