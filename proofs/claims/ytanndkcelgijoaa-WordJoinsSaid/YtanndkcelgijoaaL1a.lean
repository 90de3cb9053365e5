/- The small functions of the statements on words. -/
import Derived.Test.YtanndkcelgijoaaWb
import Derived.Test.YtanndkcelgijoaaRa
namespace Go.Proofs.Ytanndkcelgijoaa
open Go.RowKit
attribute [local go_sem] uv_and uv_or uv_xor uv_andNot uv_shr uv_shl uv_add uv_sub uv_neg uv_beq uv_beq0 uv_beq1 u64_signed uv_not sv_i64 sv_shr uv_sv ones_shr

theorem num_any (x : Int) (w : World) : Calls Try.prog 10 #[.int .i64 x] w fun e w' => e = .returned (.int .i64 x) ∧ w = w' := by
  go_enter Try.func10, Try.ntmps10
  go_wp2
  go_ret
  exact ⟨rfl, rfl⟩
theorem get_c (w : World) :
    Calls Try.prog 7 #[.int .u64 240, .int .i64 4, .int .i64 4] w fun e w' => e = .returned (.tuple #[.int .u64 15, .int .i64 0]) ∧ Below w.heap.size w w' :=
  (get_yes 240#64 4 4 w (by decide)).mono fun _ _ ⟨he, hb⟩ => ⟨he, hb⟩
set_option maxHeartbeats 400000 in
theorem wakes_1 (w : World) : Calls Try.prog 13 #[] w fun e w' => e = .returned (.bool true) ∧ Below w.heap.size w w' := by
  go_enter Try.func13, Try.ntmps13
  go_wp2_with (first | (go_at_call 7; refine (get_c _).mono ?_; rintro e w1 ⟨rfl, hb1⟩) | (go_at_call 10; refine (num_any _ _).mono ?_; rintro e w2 ⟨rfl, rfl⟩))
  go_ret
  exact ⟨rfl, hb1⟩
theorem fairly_yes (a n : Int) (w : World) (h : fitsB a n = true) :
    Calls Try.prog 8 #[.int .i64 a, .int .i64 n] w fun e w' => e = .returned (.bool true) ∧ w = w' := by
  have H := Lib.hid h
  clear h
  go_enter Try.func8, Try.ntmps8
  go_wp2_with (go_at_call 25; refine (rfits_yes a n _ H.out).mono ?_; rintro e w1 ⟨rfl, rfl⟩)
  go_ret
  exact ⟨rfl, rfl⟩
theorem fairly_no (a n : Int) (w : World) (h : fitsB a n = false) :
    Calls Try.prog 8 #[.int .i64 a, .int .i64 n] w fun e w' => e = .returned (.bool false) ∧ w = w' := by
  have H := Lib.hid h
  clear h
  go_enter Try.func8, Try.ntmps8
  go_wp2_with (go_at_call 25; refine (rfits_no a n _ H.out).mono ?_; rintro e w1 ⟨rfl, rfl⟩)
  go_ret
  exact ⟨rfl, rfl⟩
end Go.Proofs.Ytanndkcelgijoaa
