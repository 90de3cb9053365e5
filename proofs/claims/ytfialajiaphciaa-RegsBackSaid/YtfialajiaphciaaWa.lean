/- The contracts of package word's field: low, may, mask. -/
import Derived.Test.YtfialajiaphciaaRows
import Derived.Test.YtfialajiaphciaaU64
namespace Go.Proofs.Ytfialajiaphciaa
open Go.RowKit
attribute [local go_sem] uv_and uv_or uv_xor uv_andNot uv_shr uv_shl uv_add uv_sub uv_neg uv_beq uv_beq0 uv_beq1 u64_signed uv_not sv_i64 sv_shr uv_sv ones_shr

set_option maxHeartbeats 400000 in
theorem low_any (a n : Int) (v : BitVec 64) (w : World) (h1 : 0 ≤ n) (h2 : n ≤ 64) :
    Calls Try.prog 54 #[.agg #[.int .i64 a, .int .i64 n, .int .u64 (uv v)]] w fun e w' => e = .returned (.int .u64 (uv (lowB n))) ∧ Below w.heap.size w w' := by
  go_enter Try.func54, Try.ntmps54
  go_wp2
  go_ret
  exact ⟨rfl, (Below.refl _ _).alloc (Nat.le_refl _) _⟩

set_option maxHeartbeats 400000 in
theorem mask_any (a n : Int) (v : BitVec 64) (w : World) (h0 : 0 ≤ a) (h1 : 0 ≤ n) (h2 : n ≤ 64) (h3 : a ≤ 64) :
    Calls Try.prog 55 #[.agg #[.int .i64 a, .int .i64 n, .int .u64 (uv v)]] w fun e w' => e = .returned (.int .u64 (uv (maskB a n))) ∧ Below w.heap.size w w' := by
  go_enter Try.func55, Try.ntmps55
  go_wp2
  go_region_held3 (fun w' => w'.cell? ⟨w.heap.size, 0, none⟩ = some (.int .i64 a) ∧ w'.cell? ⟨w.heap.size, 1, none⟩ = some (.int .i64 n) ∧ w'.cell? ⟨w.heap.size, 2, none⟩ = some (.int .u64 (uv v)))
     (go_keep)
     (first | (go_at_call 54; refine (low_any _ _ _ _ (by omega) (by omega)).mono ?_; rintro e w' ⟨rfl, hb⟩; obtain ⟨hc, hf⟩ := bcell hb))
  go_wp2
  go_ret
  exact ⟨rfl, (((Below.refl _ _).alloc (Nat.le_refl _) _).drew).trans (hb.mono (by simp))⟩

set_option maxHeartbeats 400000 in
theorem may_1 (a n : Int) (v : BitVec 64) (w : World) (h1 : n < 1) :
    Calls Try.prog 53 #[.agg #[.int .i64 a, .int .i64 n, .int .u64 (uv v)]] w fun e w' => e = .returned (.bool false) ∧ Below w.heap.size w w' := by
  have d1 : decide (1 ≤ n) = false := by simp; omega
  go_enter Try.func53, Try.ntmps53
  go_wp2
  go_quiet (fail)
  go_wp2
  go_ret
  exact ⟨rfl, below_drewN ((Below.refl _ _).alloc (Nat.le_refl _) _) _⟩
set_option maxHeartbeats 400000 in
theorem may_2 (a n : Int) (v : BitVec 64) (w : World) (h1 : 1 ≤ n) (h2 : 64 < n) :
    Calls Try.prog 53 #[.agg #[.int .i64 a, .int .i64 n, .int .u64 (uv v)]] w fun e w' => e = .returned (.bool false) ∧ Below w.heap.size w w' := by
  have d1 : decide (1 ≤ n) = true := by simp; omega
  have d2 : decide (n ≤ 64) = false := by simp; omega
  go_enter Try.func53, Try.ntmps53
  go_wp2
  go_quiet (fail)
  go_wp2
  go_ret
  exact ⟨rfl, below_drewN ((Below.refl _ _).alloc (Nat.le_refl _) _) _⟩
set_option maxHeartbeats 400000 in
theorem may_3 (a n : Int) (v : BitVec 64) (w : World) (h1 : 1 ≤ n) (h2 : n ≤ 64) (h3 : a < 0) :
    Calls Try.prog 53 #[.agg #[.int .i64 a, .int .i64 n, .int .u64 (uv v)]] w fun e w' => e = .returned (.bool false) ∧ Below w.heap.size w w' := by
  have d1 : decide (1 ≤ n) = true := by simp; omega
  have d2 : decide (n ≤ 64) = true := by simp; omega
  have d3 : decide (0 ≤ a) = false := by simp; omega
  go_enter Try.func53, Try.ntmps53
  go_wp2
  go_quiet (fail)
  go_wp2
  go_ret
  exact ⟨rfl, below_drewN ((Below.refl _ _).alloc (Nat.le_refl _) _) _⟩
set_option maxHeartbeats 400000 in
theorem may_4 (a n : Int) (v : BitVec 64) (w : World) (h1 : 1 ≤ n) (h2 : n ≤ 64) (h3 : 0 ≤ a) (h4 : 64 - n < a) :
    Calls Try.prog 53 #[.agg #[.int .i64 a, .int .i64 n, .int .u64 (uv v)]] w fun e w' => e = .returned (.bool false) ∧ Below w.heap.size w w' := by
  have hw : IntKind.i64.wrap (64 - n) = 64 - n := IntWalk.i64_in _ (by omega)
  have d1 : decide (1 ≤ n) = true := by simp; omega
  have d2 : decide (n ≤ 64) = true := by simp; omega
  have d3 : decide (0 ≤ a) = true := by simp; omega
  have d4 : decide (a ≤ 64 - n) = false := by simp; omega
  go_enter Try.func53, Try.ntmps53
  go_wp2
  go_quiet (fail)
  go_wp2
  go_ret
  exact ⟨rfl, below_drewN ((Below.refl _ _).alloc (Nat.le_refl _) _) _⟩
set_option maxHeartbeats 400000 in
theorem may_5 (a n : Int) (v : BitVec 64) (w : World) (h1 : 1 ≤ n) (h2 : n ≤ 64) (h3 : 0 ≤ a) (h4 : a ≤ 64 - n) :
    Calls Try.prog 53 #[.agg #[.int .i64 a, .int .i64 n, .int .u64 (uv v)]] w fun e w' => e = .returned (.bool (v &&& ~~~lowB n == 0#64)) ∧ Below w.heap.size w w' := by
  have hw : IntKind.i64.wrap (64 - n) = 64 - n := IntWalk.i64_in _ (by omega)
  have d1 : decide (1 ≤ n) = true := by simp; omega
  have d2 : decide (n ≤ 64) = true := by simp; omega
  have d3 : decide (0 ≤ a) = true := by simp; omega
  have d4 : decide (a ≤ 64 - n) = true := by simp; omega
  go_enter Try.func53, Try.ntmps53
  go_wp2
  go_region_held3 (fun w' => w'.cell? ⟨w.heap.size, 0, none⟩ = some (.int .i64 a) ∧ w'.cell? ⟨w.heap.size, 1, none⟩ = some (.int .i64 n) ∧ w'.cell? ⟨w.heap.size, 2, none⟩ = some (.int .u64 (uv v)))
     (go_keep)
     (first | (go_at_call 54; refine (low_any _ _ _ _ (by omega) (by omega)).mono ?_; rintro e w' ⟨rfl, hb⟩; obtain ⟨hc, hf⟩ := bcell hb))
  go_wp2
  go_ret
  exact ⟨rfl, (((Below.refl _ _).alloc (Nat.le_refl _) _).drew).trans (hb.mono (by simp))⟩

theorem may_yes (a n : Int) (v : BitVec 64) (w : World) (h : mayB a n v = true) :
    Calls Try.prog 53 #[.agg #[.int .i64 a, .int .i64 n, .int .u64 (uv v)]] w fun e w' => e = .returned (.bool true) ∧ Below w.heap.size w w' := by
  unfold mayB at h
  rw [Bool.and_eq_true] at h
  obtain ⟨h, hv⟩ := h
  have h := fitsB_yes h
  rw [← hv]
  exact may_5 a n v w (by omega) (by omega) (by omega) (by omega)
theorem may_no (a n : Int) (v : BitVec 64) (w : World) (h : mayB a n v = false) :
    Calls Try.prog 53 #[.agg #[.int .i64 a, .int .i64 n, .int .u64 (uv v)]] w fun e w' => e = .returned (.bool false) ∧ Below w.heap.size w w' := by
  unfold mayB at h
  by_cases hh : fitsB a n = true
  · rw [hh, Bool.true_and] at h
    have hh := fitsB_yes hh
    rw [← h]
    exact may_5 a n v w (by omega) (by omega) (by omega) (by omega)
  · rcases fitsB_no (by simpa using hh) with h | ⟨h1, h2⟩ | ⟨h1, h2, h3⟩ | ⟨h1, h2, h3, h4⟩
    · exact may_1 a n v w h
    · exact may_2 a n v w h1 h2
    · exact may_3 a n v w h1 h2 h3
    · exact may_4 a n v w h1 h2 h3 h4
end Go.Proofs.Ytfialajiaphciaa
