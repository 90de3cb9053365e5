/- The contracts of package regs: Set, the others. -/
import Derived.Test.YtfialajiaphciaaRg
namespace Go.Proofs.Ytfialajiaphciaa
open Go.RowKit
attribute [local go_sem] uv_and uv_or uv_xor uv_andNot uv_shr uv_shl uv_add uv_sub uv_neg uv_beq uv_beq0 uv_beq1 uv_bne uv_bne0 u64_signed uv_not sv_i64 sv_shr uv_sv ones_shr sv_w64 uv_and1 uv_mul4 uv_4mul uv_add4

set_option maxHeartbeats 4000000 in
theorem gset3 (r : RG) (v : BitVec 64) (w : World) :
    Calls Try.prog 25 #[.agg (rgA r), .int .i64 3, .int .u64 (uv v)] w fun e w' => e = .returned (.tuple #[.agg #[.int .u64 (uv r.x0), .int .u64 (uv r.x1), .int .u64 (uv r.x2), .int .u64 (uv r.x3), .int .u64 (uv r.x4), .int .u64 (uv r.x5), .int .u64 (uv r.x6), .int .u64 (uv r.x7), .int .u64 (uv r.pc), .int .u64 (uv r.s0), .int .u64 (uv r.s1), .int .u64 (uv r.s2), .int .u64 (uv v), .int .u64 (uv r.s4), .int .u64 (uv r.s5)], .int .i64 0]) ∧ Below w.heap.size w w' := by
  have H := Lib.hid (by decide : btwB 3 0 5 = true)
  unfold rgA
  go_enter Try.func25, Try.ntmps25
  go_wp2_with (go_at_call 49; refine (system_yes _ _ _ H.out).mono ?_; rintro e w1 ⟨rfl, rfl⟩)
  refine bodyPost_ret (v := .tuple #[.agg #[.int .u64 (uv r.x0), .int .u64 (uv r.x1), .int .u64 (uv r.x2), .int .u64 (uv r.x3), .int .u64 (uv r.x4), .int .u64 (uv r.x5), .int .u64 (uv r.x6), .int .u64 (uv r.x7), .int .u64 (uv r.pc), .int .u64 (uv r.s0), .int .u64 (uv r.s1), .int .u64 (uv r.s2), .int .u64 (uv v), .int .u64 (uv r.s4), .int .u64 (uv r.s5)], .int .i64 0]) (by simp [results, Try.results25, go_sem]) rfl ⟨rfl, ?_⟩
  exact three_new
set_option maxHeartbeats 4000000 in
theorem gset4 (r : RG) (v : BitVec 64) (w : World) :
    Calls Try.prog 25 #[.agg (rgA r), .int .i64 4, .int .u64 (uv v)] w fun e w' => e = .returned (.tuple #[.agg #[.int .u64 (uv r.x0), .int .u64 (uv r.x1), .int .u64 (uv r.x2), .int .u64 (uv r.x3), .int .u64 (uv r.x4), .int .u64 (uv r.x5), .int .u64 (uv r.x6), .int .u64 (uv r.x7), .int .u64 (uv r.pc), .int .u64 (uv r.s0), .int .u64 (uv r.s1), .int .u64 (uv r.s2), .int .u64 (uv r.s3), .int .u64 (uv v), .int .u64 (uv r.s5)], .int .i64 0]) ∧ Below w.heap.size w w' := by
  have H := Lib.hid (by decide : btwB 4 0 5 = true)
  unfold rgA
  go_enter Try.func25, Try.ntmps25
  go_wp2_with (go_at_call 49; refine (system_yes _ _ _ H.out).mono ?_; rintro e w1 ⟨rfl, rfl⟩)
  refine bodyPost_ret (v := .tuple #[.agg #[.int .u64 (uv r.x0), .int .u64 (uv r.x1), .int .u64 (uv r.x2), .int .u64 (uv r.x3), .int .u64 (uv r.x4), .int .u64 (uv r.x5), .int .u64 (uv r.x6), .int .u64 (uv r.x7), .int .u64 (uv r.pc), .int .u64 (uv r.s0), .int .u64 (uv r.s1), .int .u64 (uv r.s2), .int .u64 (uv r.s3), .int .u64 (uv v), .int .u64 (uv r.s5)], .int .i64 0]) (by simp [results, Try.results25, go_sem]) rfl ⟨rfl, ?_⟩
  exact three_new
set_option maxHeartbeats 4000000 in
theorem gset5 (r : RG) (v : BitVec 64) (w : World) :
    Calls Try.prog 25 #[.agg (rgA r), .int .i64 5, .int .u64 (uv v)] w fun e w' => e = .returned (.tuple #[.agg #[.int .u64 (uv r.x0), .int .u64 (uv r.x1), .int .u64 (uv r.x2), .int .u64 (uv r.x3), .int .u64 (uv r.x4), .int .u64 (uv r.x5), .int .u64 (uv r.x6), .int .u64 (uv r.x7), .int .u64 (uv r.pc), .int .u64 (uv r.s0), .int .u64 (uv r.s1), .int .u64 (uv r.s2), .int .u64 (uv r.s3), .int .u64 (uv r.s4), .int .u64 (uv v)], .int .i64 0]) ∧ Below w.heap.size w w' := by
  have H := Lib.hid (by decide : btwB 5 0 5 = true)
  unfold rgA
  go_enter Try.func25, Try.ntmps25
  go_wp2_with (go_at_call 49; refine (system_yes _ _ _ H.out).mono ?_; rintro e w1 ⟨rfl, rfl⟩)
  refine bodyPost_ret (v := .tuple #[.agg #[.int .u64 (uv r.x0), .int .u64 (uv r.x1), .int .u64 (uv r.x2), .int .u64 (uv r.x3), .int .u64 (uv r.x4), .int .u64 (uv r.x5), .int .u64 (uv r.x6), .int .u64 (uv r.x7), .int .u64 (uv r.pc), .int .u64 (uv r.s0), .int .u64 (uv r.s1), .int .u64 (uv r.s2), .int .u64 (uv r.s3), .int .u64 (uv r.s4), .int .u64 (uv v)], .int .i64 0]) (by simp [results, Try.results25, go_sem]) rfl ⟨rfl, ?_⟩
  exact three_new
set_option maxHeartbeats 4000000 in
theorem gset_no (r : RG) (k : Int) (v : BitVec 64) (w : World) (h : btwB k 0 5 = false) :
    Calls Try.prog 25 #[.agg (rgA r), .int .i64 k, .int .u64 (uv v)] w fun e w' => e = .returned (.tuple #[.agg #[.int .u64 0, .int .u64 0, .int .u64 0, .int .u64 0, .int .u64 0, .int .u64 0, .int .u64 0, .int .u64 0, .int .u64 0, .int .u64 0, .int .u64 0, .int .u64 0, .int .u64 0, .int .u64 0, .int .u64 0], .int .i64 1]) ∧ Below w.heap.size w w' := by
  have H := Lib.hid h
  clear h
  unfold rgA
  go_enter Try.func25, Try.ntmps25
  go_wp2_with (go_at_call 49; refine (system_no _ _ _ H.out).mono ?_; rintro e w1 ⟨rfl, rfl⟩)
  refine bodyPost_ret (v := .tuple #[.agg #[.int .u64 0, .int .u64 0, .int .u64 0, .int .u64 0, .int .u64 0, .int .u64 0, .int .u64 0, .int .u64 0, .int .u64 0, .int .u64 0, .int .u64 0, .int .u64 0, .int .u64 0, .int .u64 0, .int .u64 0], .int .i64 1]) (by simp [results, Try.results25, go_sem]) rfl ⟨rfl, ?_⟩
  exact three_new
end Go.Proofs.Ytfialajiaphciaa
