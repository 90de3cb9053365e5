/- The contract of Within: a number below n. -/
import Derived.Test.YtfialajiaphciaaRows
import Derived.Test.YtfialajiaphciaaU64
namespace Go.Proofs.Ytfialajiaphciaa
open Go.RowKit
def WithinPost (n : Int) (w : World) (e : Ending) (w' : World) : Prop := ∃ r : Int, (0 ≤ r ∧ r < n) ∧ e = .returned (.int .i64 r) ∧ w = w'
def withinI (i n : Int) : Int := i % 18446744073709551616 % n
theorem within_fact (i n : Int) (h1 : 1 ≤ n) (h2 : n ≤ 9223372036854775807) : wrap64 ((IntKind.u64.wrap i).tmod n) = withinI i n := by
  unfold wrap64 withinI
  rw [IntKind.wrap_u64, Int.tmod_eq_emod_of_nonneg (by omega)]
  have a1 := Int.emod_nonneg (i % 18446744073709551616) (by omega : n ≠ 0)
  have a2 := Int.emod_lt_of_pos (i % 18446744073709551616) (by omega : 0 < n)
  omega
theorem within_bd (i n : Int) (h1 : 1 ≤ n) : 0 ≤ withinI i n ∧ withinI i n < n :=
  ⟨Int.emod_nonneg _ (by omega), Int.emod_lt_of_pos _ (by omega)⟩
set_option maxHeartbeats 400000 in
theorem within_eq (i n : Int) (w : World) (h1 : 1 ≤ n) (h2 : n ≤ 9223372036854775807) :
    Calls Try.prog 23 #[.int .i64 i, .int .i64 n] w fun e w' => e = .returned (.int .i64 (withinI i n)) ∧ w = w' := by
  go_enter Try.func23, Try.ntmps23
  go_wp2
  go_ret
  exact ⟨by rw [← within_fact i n h1 h2]; rfl, rfl⟩
theorem within_any (i n : Int) (w : World) (h1 : 1 ≤ n) (h2 : n ≤ 9223372036854775807) :
    Calls Try.prog 23 #[.int .i64 i, .int .i64 n] w (WithinPost n w) :=
  (within_eq i n w h1 h2).mono fun _ _ ⟨he, hw⟩ => ⟨withinI i n, within_bd i n h1, he, hw⟩
end Go.Proofs.Ytfialajiaphciaa
