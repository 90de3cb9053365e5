/- The contracts of TopStage's first two calls: heavy, Within. -/
import Derived.Test.YtmlpimckfneliaaGreatU64
import Derived.Test.YtmlpimckfneliaaGreatProg
namespace Go.Proofs.YtmlpimckfneliaaGreat
open Go.RowKit
/-- is a story heavy? by the rows' lengths -/
def hvB (a b c d e : Nat) : Bool := decide (600 < wrap64 (wrap64 (wrap64 (wrap64 ((a : Int) + b) + c) + d) + e))
set_option maxHeartbeats 1000000 in
theorem heavy_any (a0 a1 a2 a3 a5 : Option Addr) (l0 l1 l2 l3 l5 c0 c1 c2 c3 c5 : Nat) (n : Int) (w : World) :
    Calls Tryz.prog 4 #[.agg #[.slice a0 l0 c0, .slice a1 l1 c1, .slice a2 l2 c2, .slice a3 l3 c3, .int .i64 n, .slice a5 l5 c5]] w fun e w' => e = .returned (.bool (hvB l0 l1 l2 l3 l5)) ∧ Below w.heap.size w w' := by
  go_enter Tryz.func4, Tryz.ntmps4
  go_wp2
  go_ret
  exact ⟨rfl, (Below.refl _ _).alloc (Nat.le_refl _) _⟩
def withinI (i n : Int) : Int := i % 18446744073709551616 % n
theorem within_fact (i n : Int) (h1 : 1 ≤ n) (h2 : n ≤ 9223372036854775807) : wrap64 ((IntKind.u64.wrap i).tmod n) = withinI i n := by
  unfold wrap64 withinI
  rw [IntKind.wrap_u64, Int.tmod_eq_emod_of_nonneg (by omega)]
  have a1 := Int.emod_nonneg (i % 18446744073709551616) (by omega : n ≠ 0)
  have a2 := Int.emod_lt_of_pos (i % 18446744073709551616) (by omega : 0 < n)
  omega
theorem within_bd (i n : Int) (h1 : 1 ≤ n) : 0 ≤ withinI i n ∧ withinI i n < n :=
  ⟨Int.emod_nonneg _ (by omega), Int.emod_lt_of_pos _ (by omega)⟩
set_option maxHeartbeats 400000 in
theorem within_eq (i n : Int) (w : World) (h1 : 1 ≤ n) (h2 : n ≤ 9223372036854775807) :
    Calls Tryz.prog 6 #[.int .i64 i, .int .i64 n] w fun e w' => e = .returned (.int .i64 (withinI i n)) ∧ w = w' := by
  go_enter Tryz.func6, Tryz.ntmps6
  go_wp2
  go_ret
  exact ⟨by rw [← within_fact i n h1 h2]; rfl, rfl⟩
end Go.Proofs.YtmlpimckfneliaaGreat
