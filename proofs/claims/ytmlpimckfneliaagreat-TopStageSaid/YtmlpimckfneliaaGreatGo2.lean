/- A run reckoned beforehand: TopStage at the targets 16 to 31. No conditions. -/
import Derived.Test.YtmlpimckfneliaaGreatGn
namespace Go.Proofs.YtmlpimckfneliaaGreat.Ev
theorem noT8 : (List.range' 16 2).all (fun t => topB false t) = true := by decide +kernel
theorem noT9 : (List.range' 18 2).all (fun t => topB false t) = true := by decide +kernel
theorem noT10 : (List.range' 20 2).all (fun t => topB false t) = true := by decide +kernel
theorem noT11 : (List.range' 22 2).all (fun t => topB false t) = true := by decide +kernel
theorem noT12 : (List.range' 24 2).all (fun t => topB false t) = true := by decide +kernel
theorem noT13 : (List.range' 26 2).all (fun t => topB false t) = true := by decide +kernel
theorem noT14 : (List.range' 28 2).all (fun t => topB false t) = true := by decide +kernel
theorem noT15 : (List.range' 30 2).all (fun t => topB false t) = true := by decide +kernel
theorem noQ1 : ∀ t, 16 ≤ t → t < 16 + 16 → topB false t = true := all_two (m := 2) (n := 14) (all_range noT8) (all_two (m := 2) (n := 12) (all_range noT9) (all_two (m := 2) (n := 10) (all_range noT10) (all_two (m := 2) (n := 8) (all_range noT11) (all_two (m := 2) (n := 6) (all_range noT12) (all_two (m := 2) (n := 4) (all_range noT13) (all_two (m := 2) (n := 2) (all_range noT14) (all_range noT15)))))))
end Go.Proofs.YtmlpimckfneliaaGreat.Ev
