/- The contracts of the reference's word functions: Mask, Fits, Field, Get, Put, Sign. -/
import Derived.Test.YtfialajiaphciaaRows
import Derived.Test.YtfialajiaphciaaU64
namespace Go.Proofs.Ytfialajiaphciaa
open Go.RowKit
attribute [local go_sem] uv_and uv_or uv_xor uv_andNot uv_shr uv_shl uv_add uv_sub uv_neg uv_beq uv_beq0 uv_beq1 u64_signed uv_not sv_i64 sv_shr uv_sv ones_shr


theorem ret_u {x y : Int} (h : x = y) : Ending.returned (.int .u64 x) = .returned (.int .u64 y) := by rw [h]
set_option maxHeartbeats 400000 in
theorem rmask_1 (n : Nat) (w : World) (h : n < 64) :
    Calls Try.prog 52 #[.int .i64 n] w fun e w' => e = .returned (.int .u64 (uv (lowB n))) ∧ w = w' := by
  go_enter Try.func52, Try.ntmps52
  go_wp2
  go_ret
  exact ⟨ret_u (uv_mask n h), rfl⟩
set_option maxHeartbeats 400000 in
theorem rmask_2 (w : World) :
    Calls Try.prog 52 #[.int .i64 64] w fun e w' => e = .returned (.int .u64 (uv (lowB 64))) ∧ w = w' := by
  go_enter Try.func52, Try.ntmps52
  go_wp2
  go_ret
  exact ⟨rfl, rfl⟩
theorem rmask (n : Int) (w : World) (h0 : 0 ≤ n) (h : n ≤ 64) :
    Calls Try.prog 52 #[.int .i64 n] w fun e w' => e = .returned (.int .u64 (uv (lowB n))) ∧ w = w' := by
  by_cases e : n = 64
  · rw [e]; exact rmask_2 w
  · obtain ⟨k, rfl⟩ := Int.eq_ofNat_of_zero_le h0
    exact rmask_1 k w (by omega)
set_option maxHeartbeats 400000 in
theorem rfits_yes (a n : Int) (w : World) (h : fitsB a n = true) :
    Calls Try.prog 56 #[.int .i64 a, .int .i64 n] w fun e w' => e = .returned (.bool true) ∧ w = w' := by
  obtain ⟨h1, h2, h3, h4⟩ := fitsB_yes h
  clear h
  go_enter Try.func56, Try.ntmps56
  go_wp2
  go_ret
  exact ⟨rfl, rfl⟩
set_option maxHeartbeats 400000 in
theorem rfits_no (a n : Int) (w : World) (h : fitsB a n = false) :
    Calls Try.prog 56 #[.int .i64 a, .int .i64 n] w fun e w' => e = .returned (.bool false) ∧ w = w' := by
  have h' : a < 0 ∨ (0 ≤ a ∧ 63 < a) ∨ (0 ≤ a ∧ a ≤ 63 ∧ n < 1) ∨ (0 ≤ a ∧ a ≤ 63 ∧ 1 ≤ n ∧ 64 - a < n) := by
    have h' : ¬ (0 ≤ a ∧ a ≤ 63 ∧ 1 ≤ n ∧ n ≤ 64 - a) := by simpa [fitsB] using h
    omega
  clear h
  rcases h' with h | ⟨h1, h⟩ | ⟨h1, h2, h⟩ | ⟨h1, h2, h3, h⟩
  all_goals
    go_enter Try.func56, Try.ntmps56
    go_wp2
    go_ret
    exact ⟨by first | rfl | (simp; omega), rfl⟩
set_option maxHeartbeats 400000 in
theorem rget (v : BitVec 64) (a n : Int) (w : World) (h : fitsB a n = true) :
    Calls Try.prog 47 #[.int .u64 (uv v), .int .i64 a, .int .i64 n] w fun e w' => e = .returned (.int .u64 (uv (getB v a n))) ∧ Below w.heap.size w w' := by
  obtain ⟨h1, h2, h3, h4⟩ := fitsB_yes h
  clear h
  go_enter Try.func47, Try.ntmps47
  go_wp2
  go_quiet ((go_at_call 52; exact quiet_left (rmask n _ (by omega) (by omega))))
  go_wp2
  go_ret
  exact ⟨rfl, below_drewN (Below.refl _ _) _⟩
set_option maxHeartbeats 400000 in
theorem rfield_1 (a n : Int) (x : BitVec 64) (w : World) (h : fitsB a n = true) :
    Calls Try.prog 51 #[.agg #[.int .i64 a, .int .i64 n, .int .u64 (uv x)]] w fun e w' => e = .returned (.bool (x &&& ~~~lowB n == 0#64)) ∧ Below w.heap.size w w' := by
  obtain ⟨h1, h2, h3, h4⟩ := fitsB_yes h
  have H := Lib.hid h
  clear h
  go_enter Try.func51, Try.ntmps51
  go_wp2
  go_quiet ((first | (go_at_call 56; exact quiet_left (rfits_yes a n _ H.out)) | (go_at_call 52; exact quiet_left (rmask n _ (by omega) (by omega)))))
  go_wp2
  go_ret
  exact ⟨rfl, below_drewN ((Below.refl _ _).alloc (Nat.le_refl _) _) _⟩
set_option maxHeartbeats 400000 in
theorem rfield_2 (a n : Int) (x : BitVec 64) (w : World) (h : fitsB a n = false) :
    Calls Try.prog 51 #[.agg #[.int .i64 a, .int .i64 n, .int .u64 (uv x)]] w fun e w' => e = .returned (.bool false) ∧ Below w.heap.size w w' := by
  have H := Lib.hid h
  clear h
  go_enter Try.func51, Try.ntmps51
  go_wp2
  go_quiet ((first | (go_at_call 56; exact quiet_left (rfits_no a n _ H.out))))
  go_wp2
  go_ret
  exact ⟨rfl, below_drewN ((Below.refl _ _).alloc (Nat.le_refl _) _) _⟩
theorem rfield_yes (a n : Int) (x : BitVec 64) (w : World) (h : mayB a n x = true) :
    Calls Try.prog 51 #[.agg #[.int .i64 a, .int .i64 n, .int .u64 (uv x)]] w fun e w' => e = .returned (.bool true) ∧ Below w.heap.size w w' := by
  unfold mayB at h
  rw [Bool.and_eq_true] at h
  obtain ⟨h, hv⟩ := h
  rw [← hv]
  exact rfield_1 a n x w h
theorem rfield_no (a n : Int) (x : BitVec 64) (w : World) (h : mayB a n x = false) :
    Calls Try.prog 51 #[.agg #[.int .i64 a, .int .i64 n, .int .u64 (uv x)]] w fun e w' => e = .returned (.bool false) ∧ Below w.heap.size w w' := by
  unfold mayB at h
  by_cases hh : fitsB a n = true
  · rw [hh, Bool.true_and] at h
    rw [← h]
    exact rfield_1 a n x w hh
  · exact rfield_2 a n x w (by simpa using hh)

end Go.Proofs.Ytfialajiaphciaa
