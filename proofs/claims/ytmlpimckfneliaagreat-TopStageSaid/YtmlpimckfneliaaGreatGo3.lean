/- A run reckoned beforehand: TopStage at the targets 32 to 47. No conditions. -/
import Derived.Test.YtmlpimckfneliaaGreatGn
namespace Go.Proofs.YtmlpimckfneliaaGreat.Ev
theorem noT16 : (List.range' 32 2).all (fun t => topB false t) = true := by decide +kernel
theorem noT17 : (List.range' 34 2).all (fun t => topB false t) = true := by decide +kernel
theorem noT18 : (List.range' 36 2).all (fun t => topB false t) = true := by decide +kernel
theorem noT19 : (List.range' 38 2).all (fun t => topB false t) = true := by decide +kernel
theorem noT20 : (List.range' 40 2).all (fun t => topB false t) = true := by decide +kernel
theorem noT21 : (List.range' 42 2).all (fun t => topB false t) = true := by decide +kernel
theorem noT22 : (List.range' 44 2).all (fun t => topB false t) = true := by decide +kernel
theorem noT23 : (List.range' 46 2).all (fun t => topB false t) = true := by decide +kernel
theorem noQ2 : ∀ t, 32 ≤ t → t < 32 + 16 → topB false t = true := all_two (m := 2) (n := 14) (all_range noT16) (all_two (m := 2) (n := 12) (all_range noT17) (all_two (m := 2) (n := 10) (all_range noT18) (all_two (m := 2) (n := 8) (all_range noT19) (all_two (m := 2) (n := 6) (all_range noT20) (all_two (m := 2) (n := 4) (all_range noT21) (all_two (m := 2) (n := 2) (all_range noT22) (all_range noT23)))))))
end Go.Proofs.YtmlpimckfneliaaGreat.Ev
