/- A run reckoned beforehand: TopStage at the targets 0 to 15. No conditions. -/
import Derived.Test.YtmlpimckfneliaaGreatGn
namespace Go.Proofs.YtmlpimckfneliaaGreat.Ev
theorem noT0 : (List.range' 0 4).all (fun t => topB false t) = true := by decide +kernel
theorem noT1 : (List.range' 4 4).all (fun t => topB false t) = true := by decide +kernel
theorem noT2 : (List.range' 8 4).all (fun t => topB false t) = true := by decide +kernel
theorem noT3 : (List.range' 12 4).all (fun t => topB false t) = true := by decide +kernel
theorem noQ0 : ∀ t, 0 ≤ t → t < 0 + 16 → topB false t = true := all_two (m := 4) (n := 12) (all_range noT0) (all_two (m := 4) (n := 8) (all_range noT1) (all_two (m := 4) (n := 4) (all_range noT2) (all_range noT3)))
end Go.Proofs.YtmlpimckfneliaaGreat.Ev
