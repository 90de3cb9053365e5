/- A run reckoned beforehand: TopStage at the targets 48 to 63. No conditions. -/
import Derived.Test.YtmlpimckfneliaaGreatGn
namespace Go.Proofs.YtmlpimckfneliaaGreat.Ev
theorem noT24 : (List.range' 48 2).all (fun t => topB false t) = true := by decide +kernel
theorem noT25 : (List.range' 50 2).all (fun t => topB false t) = true := by decide +kernel
theorem noT26 : (List.range' 52 2).all (fun t => topB false t) = true := by decide +kernel
theorem noT27 : (List.range' 54 2).all (fun t => topB false t) = true := by decide +kernel
theorem noT28 : (List.range' 56 2).all (fun t => topB false t) = true := by decide +kernel
theorem noT29 : (List.range' 58 2).all (fun t => topB false t) = true := by decide +kernel
theorem noT30 : (List.range' 60 2).all (fun t => topB false t) = true := by decide +kernel
theorem noT31 : (List.range' 62 2).all (fun t => topB false t) = true := by decide +kernel
theorem noQ3 : ∀ t, 48 ≤ t → t < 48 + 16 → topB false t = true := all_two (m := 2) (n := 14) (all_range noT24) (all_two (m := 2) (n := 12) (all_range noT25) (all_two (m := 2) (n := 10) (all_range noT26) (all_two (m := 2) (n := 8) (all_range noT27) (all_two (m := 2) (n := 6) (all_range noT28) (all_two (m := 2) (n := 4) (all_range noT29) (all_two (m := 2) (n := 2) (all_range noT30) (all_range noT31)))))))
end Go.Proofs.YtmlpimckfneliaaGreat.Ev
