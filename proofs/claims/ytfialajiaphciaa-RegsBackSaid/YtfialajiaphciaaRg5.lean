/- The contracts of the reference's Set. -/
import Derived.Test.YtfialajiaphciaaRg
namespace Go.Proofs.Ytfialajiaphciaa
open Go.RowKit
attribute [local go_sem] uv_and uv_or uv_xor uv_andNot uv_shr uv_shl uv_add uv_sub uv_neg uv_beq uv_beq0 uv_beq1 uv_bne uv_bne0 u64_signed uv_not sv_i64 sv_shr uv_sv ones_shr sv_w64 uv_and1 uv_mul4 uv_4mul uv_add4

set_option maxHeartbeats 4000000 in
theorem rrset0 (r : RG) (v : BitVec 64) (w : World) :
    Calls Try.prog 28 #[.agg (rgA r), .int .i64 0, .int .u64 (uv v)] w fun e w' => e = .returned (.agg #[.int .u64 (uv r.x0), .int .u64 (uv r.x1), .int .u64 (uv r.x2), .int .u64 (uv r.x3), .int .u64 (uv r.x4), .int .u64 (uv r.x5), .int .u64 (uv r.x6), .int .u64 (uv r.x7), .int .u64 (uv r.pc), .int .u64 (uv v), .int .u64 (uv r.s1), .int .u64 (uv r.s2), .int .u64 (uv r.s3), .int .u64 (uv r.s4), .int .u64 (uv r.s5)]) ∧ Below w.heap.size w w' := by
  unfold rgA
  go_enter Try.func28, Try.ntmps28
  go_wp2
  refine bodyPost_ret (v := .agg #[.int .u64 (uv r.x0), .int .u64 (uv r.x1), .int .u64 (uv r.x2), .int .u64 (uv r.x3), .int .u64 (uv r.x4), .int .u64 (uv r.x5), .int .u64 (uv r.x6), .int .u64 (uv r.x7), .int .u64 (uv r.pc), .int .u64 (uv v), .int .u64 (uv r.s1), .int .u64 (uv r.s2), .int .u64 (uv r.s3), .int .u64 (uv r.s4), .int .u64 (uv r.s5)]) (by simp [results, Try.results28, go_sem]) rfl ⟨rfl, ?_⟩
  exact two_new
set_option maxHeartbeats 4000000 in
theorem rrset1 (r : RG) (v : BitVec 64) (w : World) :
    Calls Try.prog 28 #[.agg (rgA r), .int .i64 1, .int .u64 (uv v)] w fun e w' => e = .returned (.agg #[.int .u64 (uv r.x0), .int .u64 (uv r.x1), .int .u64 (uv r.x2), .int .u64 (uv r.x3), .int .u64 (uv r.x4), .int .u64 (uv r.x5), .int .u64 (uv r.x6), .int .u64 (uv r.x7), .int .u64 (uv r.pc), .int .u64 (uv r.s0), .int .u64 (uv v), .int .u64 (uv r.s2), .int .u64 (uv r.s3), .int .u64 (uv r.s4), .int .u64 (uv r.s5)]) ∧ Below w.heap.size w w' := by
  unfold rgA
  go_enter Try.func28, Try.ntmps28
  go_wp2
  refine bodyPost_ret (v := .agg #[.int .u64 (uv r.x0), .int .u64 (uv r.x1), .int .u64 (uv r.x2), .int .u64 (uv r.x3), .int .u64 (uv r.x4), .int .u64 (uv r.x5), .int .u64 (uv r.x6), .int .u64 (uv r.x7), .int .u64 (uv r.pc), .int .u64 (uv r.s0), .int .u64 (uv v), .int .u64 (uv r.s2), .int .u64 (uv r.s3), .int .u64 (uv r.s4), .int .u64 (uv r.s5)]) (by simp [results, Try.results28, go_sem]) rfl ⟨rfl, ?_⟩
  exact two_new
set_option maxHeartbeats 4000000 in
theorem rrset2 (r : RG) (v : BitVec 64) (w : World) :
    Calls Try.prog 28 #[.agg (rgA r), .int .i64 2, .int .u64 (uv v)] w fun e w' => e = .returned (.agg #[.int .u64 (uv r.x0), .int .u64 (uv r.x1), .int .u64 (uv r.x2), .int .u64 (uv r.x3), .int .u64 (uv r.x4), .int .u64 (uv r.x5), .int .u64 (uv r.x6), .int .u64 (uv r.x7), .int .u64 (uv r.pc), .int .u64 (uv r.s0), .int .u64 (uv r.s1), .int .u64 (uv v), .int .u64 (uv r.s3), .int .u64 (uv r.s4), .int .u64 (uv r.s5)]) ∧ Below w.heap.size w w' := by
  unfold rgA
  go_enter Try.func28, Try.ntmps28
  go_wp2
  refine bodyPost_ret (v := .agg #[.int .u64 (uv r.x0), .int .u64 (uv r.x1), .int .u64 (uv r.x2), .int .u64 (uv r.x3), .int .u64 (uv r.x4), .int .u64 (uv r.x5), .int .u64 (uv r.x6), .int .u64 (uv r.x7), .int .u64 (uv r.pc), .int .u64 (uv r.s0), .int .u64 (uv r.s1), .int .u64 (uv v), .int .u64 (uv r.s3), .int .u64 (uv r.s4), .int .u64 (uv r.s5)]) (by simp [results, Try.results28, go_sem]) rfl ⟨rfl, ?_⟩
  exact two_new
set_option maxHeartbeats 4000000 in
theorem rrset3 (r : RG) (v : BitVec 64) (w : World) :
    Calls Try.prog 28 #[.agg (rgA r), .int .i64 3, .int .u64 (uv v)] w fun e w' => e = .returned (.agg #[.int .u64 (uv r.x0), .int .u64 (uv r.x1), .int .u64 (uv r.x2), .int .u64 (uv r.x3), .int .u64 (uv r.x4), .int .u64 (uv r.x5), .int .u64 (uv r.x6), .int .u64 (uv r.x7), .int .u64 (uv r.pc), .int .u64 (uv r.s0), .int .u64 (uv r.s1), .int .u64 (uv r.s2), .int .u64 (uv v), .int .u64 (uv r.s4), .int .u64 (uv r.s5)]) ∧ Below w.heap.size w w' := by
  unfold rgA
  go_enter Try.func28, Try.ntmps28
  go_wp2
  refine bodyPost_ret (v := .agg #[.int .u64 (uv r.x0), .int .u64 (uv r.x1), .int .u64 (uv r.x2), .int .u64 (uv r.x3), .int .u64 (uv r.x4), .int .u64 (uv r.x5), .int .u64 (uv r.x6), .int .u64 (uv r.x7), .int .u64 (uv r.pc), .int .u64 (uv r.s0), .int .u64 (uv r.s1), .int .u64 (uv r.s2), .int .u64 (uv v), .int .u64 (uv r.s4), .int .u64 (uv r.s5)]) (by simp [results, Try.results28, go_sem]) rfl ⟨rfl, ?_⟩
  exact two_new
set_option maxHeartbeats 4000000 in
theorem rrset4 (r : RG) (v : BitVec 64) (w : World) :
    Calls Try.prog 28 #[.agg (rgA r), .int .i64 4, .int .u64 (uv v)] w fun e w' => e = .returned (.agg #[.int .u64 (uv r.x0), .int .u64 (uv r.x1), .int .u64 (uv r.x2), .int .u64 (uv r.x3), .int .u64 (uv r.x4), .int .u64 (uv r.x5), .int .u64 (uv r.x6), .int .u64 (uv r.x7), .int .u64 (uv r.pc), .int .u64 (uv r.s0), .int .u64 (uv r.s1), .int .u64 (uv r.s2), .int .u64 (uv r.s3), .int .u64 (uv v), .int .u64 (uv r.s5)]) ∧ Below w.heap.size w w' := by
  unfold rgA
  go_enter Try.func28, Try.ntmps28
  go_wp2
  refine bodyPost_ret (v := .agg #[.int .u64 (uv r.x0), .int .u64 (uv r.x1), .int .u64 (uv r.x2), .int .u64 (uv r.x3), .int .u64 (uv r.x4), .int .u64 (uv r.x5), .int .u64 (uv r.x6), .int .u64 (uv r.x7), .int .u64 (uv r.pc), .int .u64 (uv r.s0), .int .u64 (uv r.s1), .int .u64 (uv r.s2), .int .u64 (uv r.s3), .int .u64 (uv v), .int .u64 (uv r.s5)]) (by simp [results, Try.results28, go_sem]) rfl ⟨rfl, ?_⟩
  exact two_new
set_option maxHeartbeats 4000000 in
theorem rrset5 (r : RG) (v : BitVec 64) (w : World) :
    Calls Try.prog 28 #[.agg (rgA r), .int .i64 5, .int .u64 (uv v)] w fun e w' => e = .returned (.agg #[.int .u64 (uv r.x0), .int .u64 (uv r.x1), .int .u64 (uv r.x2), .int .u64 (uv r.x3), .int .u64 (uv r.x4), .int .u64 (uv r.x5), .int .u64 (uv r.x6), .int .u64 (uv r.x7), .int .u64 (uv r.pc), .int .u64 (uv r.s0), .int .u64 (uv r.s1), .int .u64 (uv r.s2), .int .u64 (uv r.s3), .int .u64 (uv r.s4), .int .u64 (uv v)]) ∧ Below w.heap.size w w' := by
  unfold rgA
  go_enter Try.func28, Try.ntmps28
  go_wp2
  refine bodyPost_ret (v := .agg #[.int .u64 (uv r.x0), .int .u64 (uv r.x1), .int .u64 (uv r.x2), .int .u64 (uv r.x3), .int .u64 (uv r.x4), .int .u64 (uv r.x5), .int .u64 (uv r.x6), .int .u64 (uv r.x7), .int .u64 (uv r.pc), .int .u64 (uv r.s0), .int .u64 (uv r.s1), .int .u64 (uv r.s2), .int .u64 (uv r.s3), .int .u64 (uv r.s4), .int .u64 (uv v)]) (by simp [results, Try.results28, go_sem]) rfl ⟨rfl, ?_⟩
  exact two_new
end Go.Proofs.Ytfialajiaphciaa
