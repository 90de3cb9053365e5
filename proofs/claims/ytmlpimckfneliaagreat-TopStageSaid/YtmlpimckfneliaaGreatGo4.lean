/- A run reckoned beforehand: TopStage at the targets 48 to 63. No conditions. -/
import Derived.Test.YtmlpimckfneliaaGreatGn
namespace Go.Proofs.YtmlpimckfneliaaGreat.Ev
theorem noT12 : (List.range' 48 4).all (fun t => topB false t) = true := by decide +kernel
theorem noT13 : (List.range' 52 4).all (fun t => topB false t) = true := by decide +kernel
theorem noT14 : (List.range' 56 4).all (fun t => topB false t) = true := by decide +kernel
theorem noT15 : (List.range' 60 4).all (fun t => topB false t) = true := by decide +kernel
theorem noQ3 : ∀ t, 48 ≤ t → t < 48 + 16 → topB false t = true := all_two (m := 4) (n := 12) (all_range noT12) (all_two (m := 4) (n := 8) (all_range noT13) (all_two (m := 4) (n := 4) (all_range noT14) (all_range noT15)))
end Go.Proofs.YtmlpimckfneliaaGreat.Ev
