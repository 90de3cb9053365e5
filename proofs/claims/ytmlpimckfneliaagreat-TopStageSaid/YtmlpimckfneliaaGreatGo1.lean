/- A run reckoned beforehand: TopStage at the targets 0 to 15. No conditions. -/
import Derived.Test.YtmlpimckfneliaaGreatGn
namespace Go.Proofs.YtmlpimckfneliaaGreat.Ev
theorem noT0 : (List.range' 0 2).all (fun t => topB false t) = true := by decide +kernel
theorem noT1 : (List.range' 2 2).all (fun t => topB false t) = true := by decide +kernel
theorem noT2 : (List.range' 4 2).all (fun t => topB false t) = true := by decide +kernel
theorem noT3 : (List.range' 6 2).all (fun t => topB false t) = true := by decide +kernel
theorem noT4 : (List.range' 8 2).all (fun t => topB false t) = true := by decide +kernel
theorem noT5 : (List.range' 10 2).all (fun t => topB false t) = true := by decide +kernel
theorem noT6 : (List.range' 12 2).all (fun t => topB false t) = true := by decide +kernel
theorem noT7 : (List.range' 14 2).all (fun t => topB false t) = true := by decide +kernel
theorem noQ0 : ∀ t, 0 ≤ t → t < 0 + 16 → topB false t = true := all_two (m := 2) (n := 14) (all_range noT0) (all_two (m := 2) (n := 12) (all_range noT1) (all_two (m := 2) (n := 10) (all_range noT2) (all_two (m := 2) (n := 8) (all_range noT3) (all_two (m := 2) (n := 6) (all_range noT4) (all_two (m := 2) (n := 4) (all_range noT5) (all_two (m := 2) (n := 2) (all_range noT6) (all_range noT7)))))))
end Go.Proofs.YtmlpimckfneliaaGreat.Ev
