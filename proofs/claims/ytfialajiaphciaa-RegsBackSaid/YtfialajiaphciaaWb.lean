/- The contracts of package word: Get, Put, Sign. -/
import Derived.Test.YtfialajiaphciaaWa
namespace Go.Proofs.Ytfialajiaphciaa
open Go.RowKit
attribute [local go_sem] uv_and uv_or uv_xor uv_andNot uv_shr uv_shl uv_add uv_sub uv_neg uv_beq uv_beq0 uv_beq1 u64_signed uv_not sv_i64 sv_shr uv_sv ones_shr

theorem mayB_zero (a n : Int) : mayB a n 0#64 = fitsB a n := by simp [mayB]

theorem may_yes0 (a n : Int) (w : World) (h : fitsB a n = true) :
    Calls Try.prog 53 #[.agg #[.int .i64 a, .int .i64 n, .int .u64 0]] w fun e w' => e = .returned (.bool true) ∧ Below w.heap.size w w' :=
  may_yes a n 0#64 w ((mayB_zero a n).trans h)
theorem may_no0 (a n : Int) (w : World) (h : fitsB a n = false) :
    Calls Try.prog 53 #[.agg #[.int .i64 a, .int .i64 n, .int .u64 0]] w fun e w' => e = .returned (.bool false) ∧ Below w.heap.size w w' :=
  may_no a n 0#64 w ((mayB_zero a n).trans h)
theorem low_any0 (a n : Int) (w : World) (h1 : 0 ≤ n) (h2 : n ≤ 64) :
    Calls Try.prog 54 #[.agg #[.int .i64 a, .int .i64 n, .int .u64 0]] w fun e w' => e = .returned (.int .u64 (uv (lowB n))) ∧ Below w.heap.size w w' :=
  low_any a n 0#64 w h1 h2

set_option maxHeartbeats 400000 in
theorem get_no (v : BitVec 64) (a n : Int) (w : World) (h : fitsB a n = false) :
    Calls Try.prog 45 #[.int .u64 (uv v), .int .i64 a, .int .i64 n] w fun e w' => e = .returned (.tuple #[.int .u64 0, .int .i64 1]) ∧ Below w.heap.size w w' := by
  have H := Lib.hid h
  clear h
  go_enter Try.func45, Try.ntmps45
  go_wp2_with (go_at_call 53; refine (may_no0 a n _ H.out).mono ?_; rintro e w' ⟨rfl, hb⟩)
  go_ret2
  exact ⟨rfl, ((Below.refl _ _).alloc (Nat.le_refl _) _).trans (hb.mono (by simp))⟩
set_option maxHeartbeats 400000 in
theorem get_yes (v : BitVec 64) (a n : Int) (w : World) (h : fitsB a n = true) :
    Calls Try.prog 45 #[.int .u64 (uv v), .int .i64 a, .int .i64 n] w fun e w' => e = .returned (.tuple #[.int .u64 (uv (getB v a n)), .int .i64 0]) ∧ Below w.heap.size w w' := by
  have hh := fitsB_yes h
  have H := Lib.hid h
  clear h
  obtain ⟨h1, h2, h3, h4⟩ := hh
  go_enter Try.func45, Try.ntmps45
  go_wp2_with (go_at_call 53; refine (may_yes0 a n _ H.out).mono ?_; rintro e w1 ⟨rfl, hb1⟩; obtain ⟨c0, c1, c2, hz1⟩ := cell3 hb1 rfl rfl)
  go_region_held3 (fun w' => w'.cell? ⟨w.heap.size, 0, none⟩ = some (.int .i64 a) ∧ w'.cell? ⟨w.heap.size, 1, none⟩ = some (.int .i64 n) ∧ w'.cell? ⟨w.heap.size, 2, none⟩ = some (.int .u64 0))
     (first | go_keep | exact ⟨cell_later hb2 c0, cell_later hb2 c1, cell_later hb2 c2⟩)
     (first | (go_at_call 54; refine (low_any0 _ _ _ (by omega) (by omega)).mono ?_; rintro e w2 ⟨rfl, hb2⟩))
  go_wp2
  go_ret2
  exact ⟨rfl, (((Below.refl _ _).alloc (Nat.le_refl _) _).trans (hb1.mono (by simp))).drew.trans (hb2.mono (by simp; omega))⟩

end Go.Proofs.Ytfialajiaphciaa
