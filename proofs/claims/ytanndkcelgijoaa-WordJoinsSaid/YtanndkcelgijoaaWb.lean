/- The contracts of package word: Get, Put, Sign. -/
import Derived.Test.YtanndkcelgijoaaWa
namespace Go.Proofs.Ytanndkcelgijoaa
open Go.RowKit
attribute [local go_sem] uv_and uv_or uv_xor uv_andNot uv_shr uv_shl uv_add uv_sub uv_neg uv_beq uv_beq0 uv_beq1 u64_signed uv_not sv_i64 sv_shr uv_sv ones_shr

theorem mayB_zero (a n : Int) : mayB a n 0#64 = fitsB a n := by simp [mayB]

theorem may_yes0 (a n : Int) (w : World) (h : fitsB a n = true) :
    Calls Try.prog 23 #[.agg #[.int .i64 a, .int .i64 n, .int .u64 0]] w fun e w' => e = .returned (.bool true) ∧ Below w.heap.size w w' :=
  may_yes a n 0#64 w ((mayB_zero a n).trans h)
theorem may_no0 (a n : Int) (w : World) (h : fitsB a n = false) :
    Calls Try.prog 23 #[.agg #[.int .i64 a, .int .i64 n, .int .u64 0]] w fun e w' => e = .returned (.bool false) ∧ Below w.heap.size w w' :=
  may_no a n 0#64 w ((mayB_zero a n).trans h)
theorem low_any0 (a n : Int) (w : World) (h1 : 0 ≤ n) (h2 : n ≤ 64) :
    Calls Try.prog 24 #[.agg #[.int .i64 a, .int .i64 n, .int .u64 0]] w fun e w' => e = .returned (.int .u64 (uv (lowB n))) ∧ Below w.heap.size w w' :=
  low_any a n 0#64 w h1 h2

set_option maxHeartbeats 400000 in
theorem get_no (v : BitVec 64) (a n : Int) (w : World) (h : fitsB a n = false) :
    Calls Try.prog 7 #[.int .u64 (uv v), .int .i64 a, .int .i64 n] w fun e w' => e = .returned (.tuple #[.int .u64 0, .int .i64 1]) ∧ Below w.heap.size w w' := by
  have H := Lib.hid h
  clear h
  go_enter Try.func7, Try.ntmps7
  go_wp2_with (go_at_call 23; refine (may_no0 a n _ H.out).mono ?_; rintro e w' ⟨rfl, hb⟩)
  go_ret2
  exact ⟨rfl, ((Below.refl _ _).alloc (Nat.le_refl _) _).trans (hb.mono (by simp))⟩
set_option maxHeartbeats 400000 in
theorem get_yes (v : BitVec 64) (a n : Int) (w : World) (h : fitsB a n = true) :
    Calls Try.prog 7 #[.int .u64 (uv v), .int .i64 a, .int .i64 n] w fun e w' => e = .returned (.tuple #[.int .u64 (uv (getB v a n)), .int .i64 0]) ∧ Below w.heap.size w w' := by
  have hh := fitsB_yes h
  have H := Lib.hid h
  clear h
  obtain ⟨h1, h2, h3, h4⟩ := hh
  go_enter Try.func7, Try.ntmps7
  go_wp2_with (go_at_call 23; refine (may_yes0 a n _ H.out).mono ?_; rintro e w1 ⟨rfl, hb1⟩; obtain ⟨c0, c1, c2, hz1⟩ := cell3 hb1 rfl rfl)
  go_region_held3 (fun w' => w'.cell? ⟨w.heap.size, 0, none⟩ = some (.int .i64 a) ∧ w'.cell? ⟨w.heap.size, 1, none⟩ = some (.int .i64 n) ∧ w'.cell? ⟨w.heap.size, 2, none⟩ = some (.int .u64 0))
     (first | go_keep | exact ⟨cell_later hb2 c0, cell_later hb2 c1, cell_later hb2 c2⟩)
     (first | (go_at_call 24; refine (low_any0 _ _ _ (by omega) (by omega)).mono ?_; rintro e w2 ⟨rfl, hb2⟩))
  go_wp2
  go_ret2
  exact ⟨rfl, (((Below.refl _ _).alloc (Nat.le_refl _) _).trans (hb1.mono (by simp))).drew.trans (hb2.mono (by simp; omega))⟩

set_option maxHeartbeats 400000 in
theorem put_no (v : BitVec 64) (a n : Int) (x : BitVec 64) (w : World) (h : mayB a n x = false) :
    Calls Try.prog 15 #[.int .u64 (uv v), .agg #[.int .i64 a, .int .i64 n, .int .u64 (uv x)]] w fun e w' => e = .returned (.tuple #[.int .u64 0, .int .i64 1]) ∧ Below w.heap.size w w' := by
  have H := Lib.hid h
  clear h
  go_enter Try.func15, Try.ntmps15
  go_wp2_with (go_at_call 23; refine (may_no a n x _ H.out).mono ?_; rintro e w' ⟨rfl, hb⟩)
  go_ret2
  exact ⟨rfl, (((Below.refl _ _).alloc (Nat.le_refl _) _).alloc (by simp) _).trans (hb.mono (by simp; omega))⟩
set_option maxHeartbeats 400000 in
theorem put_yes (v : BitVec 64) (a n : Int) (x : BitVec 64) (w : World) (h : mayB a n x = true) :
    Calls Try.prog 15 #[.int .u64 (uv v), .agg #[.int .i64 a, .int .i64 n, .int .u64 (uv x)]] w fun e w' => e = .returned (.tuple #[.int .u64 (uv (putB v a n x)), .int .i64 0]) ∧ Below w.heap.size w w' := by
  have hh : fitsB a n = true := by unfold mayB at h; rw [Bool.and_eq_true] at h; exact h.1
  have hh := fitsB_yes hh
  have H := Lib.hid h
  clear h
  obtain ⟨h1, h2, h3, h4⟩ := hh
  go_enter Try.func15, Try.ntmps15
  go_wp2_with (go_at_call 23; refine (may_yes a n x _ H.out).mono ?_; rintro e w1 ⟨rfl, hb1⟩; obtain ⟨c0, c1, c2, hz1⟩ := cell3 (k := w.heap.size + 1) hb1 rfl (by simp))
  go_region_held3 (fun w' => w'.cell? ⟨w.heap.size + 1, 0, none⟩ = some (.int .i64 a) ∧ w'.cell? ⟨w.heap.size + 1, 1, none⟩ = some (.int .i64 n) ∧ w'.cell? ⟨w.heap.size + 1, 2, none⟩ = some (.int .u64 (uv x)))
     (first | go_keep | exact ⟨cell_later hb2 c0, cell_later hb2 c1, cell_later hb2 c2⟩)
     (first | (go_at_call 26; refine (mask_any _ _ _ _ (by omega) (by omega) (by omega) (by omega)).mono ?_; rintro e w2 ⟨rfl, hb2⟩))
  go_wp2
  go_ret2
  exact ⟨rfl, ((((Below.refl _ _).alloc (Nat.le_refl _) _).alloc (by simp) _).trans (hb1.mono (by simp; omega))).drew.trans (hb2.mono (by simp; omega))⟩
set_option maxHeartbeats 400000 in
theorem sign_no (v : BitVec 64) (n : Int) (w : World) (h : fitsB 0 n = false) :
    Calls Try.prog 11 #[.int .u64 (uv v), .int .i64 n] w fun e w' => e = .returned (.tuple #[.int .u64 0, .int .i64 1]) ∧ w = w' := by
  have h' : n < 1 ∨ (1 ≤ n ∧ 64 < n) := by
    have h' : ¬ (0 ≤ (0 : Int) ∧ (0 : Int) ≤ 63 ∧ 1 ≤ n ∧ n ≤ 64 - 0) := by simpa [fitsB] using h
    omega
  clear h
  rcases h' with h | ⟨h1, h2⟩
  · go_enter Try.func11, Try.ntmps11
    go_wp2
    go_ret2
    exact ⟨rfl, rfl⟩
  · go_enter Try.func11, Try.ntmps11
    go_wp2
    go_ret2
    exact ⟨rfl, rfl⟩
set_option maxHeartbeats 400000 in
theorem sign_yes (v : BitVec 64) (n : Int) (w : World) (h : fitsB 0 n = true) :
    Calls Try.prog 11 #[.int .u64 (uv v), .int .i64 n] w fun e w' => e = .returned (.tuple #[.int .u64 (uv (signB v n)), .int .i64 0]) ∧ w = w' := by
  obtain ⟨_, _, h1, h2⟩ := fitsB_yes h
  clear h
  go_enter Try.func11, Try.ntmps11
  go_wp2
  go_ret2
  exact ⟨rfl, rfl⟩
end Go.Proofs.Ytanndkcelgijoaa
