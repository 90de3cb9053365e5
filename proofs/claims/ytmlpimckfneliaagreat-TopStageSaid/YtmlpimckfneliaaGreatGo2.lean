/- A run reckoned beforehand: TopStage at the targets 16 to 31. No conditions. -/
import Derived.Test.YtmlpimckfneliaaGreatGn
namespace Go.Proofs.YtmlpimckfneliaaGreat.Ev
theorem noT4 : (List.range' 16 4).all (fun t => topB false t) = true := by decide +kernel
theorem noT5 : (List.range' 20 4).all (fun t => topB false t) = true := by decide +kernel
theorem noT6 : (List.range' 24 4).all (fun t => topB false t) = true := by decide +kernel
theorem noT7 : (List.range' 28 4).all (fun t => topB false t) = true := by decide +kernel
theorem noQ1 : ∀ t, 16 ≤ t → t < 16 + 16 → topB false t = true := all_two (m := 4) (n := 12) (all_range noT4) (all_two (m := 4) (n := 8) (all_range noT5) (all_two (m := 4) (n := 4) (all_range noT6) (all_range noT7)))
end Go.Proofs.YtmlpimckfneliaaGreat.Ev
