/- The contracts of package regs: Trap, Back; and the reference's. -/
import Derived.Test.YtfialajiaphciaaRg
namespace Go.Proofs.Ytfialajiaphciaa
open Go.RowKit
attribute [local go_sem] uv_and uv_or uv_xor uv_andNot uv_shr uv_shl uv_add uv_sub uv_neg uv_beq uv_beq0 uv_beq1 uv_bne uv_bne0 u64_signed uv_not sv_i64 sv_shr uv_sv ones_shr sv_w64 uv_and1 uv_mul4 uv_4mul uv_add4

set_option maxHeartbeats 4000000 in
theorem gtrap (r : RG) (a b : BitVec 64) (w : World) :
    Calls Try.prog 32 #[.agg (rgA r), .int .u64 (uv a), .int .u64 (uv b)] w fun e w' => e = .returned (.agg #[.int .u64 (uv r.x0), .int .u64 (uv r.x1), .int .u64 (uv r.x2), .int .u64 (uv r.x3), .int .u64 (uv r.x4), .int .u64 (uv r.x5), .int .u64 (uv r.x6), .int .u64 (uv r.x7), .int .u64 (uv r.s2), .int .u64 (uv r.s0), .int .u64 (uv r.s1), .int .u64 (uv r.s2), .int .u64 (uv r.pc), .int .u64 (uv a), .int .u64 (uv b)]) ∧ Below w.heap.size w w' := by
  unfold rgA
  go_enter Try.func32, Try.ntmps32
  go_wp2
  refine bodyPost_ret (v := .agg #[.int .u64 (uv r.x0), .int .u64 (uv r.x1), .int .u64 (uv r.x2), .int .u64 (uv r.x3), .int .u64 (uv r.x4), .int .u64 (uv r.x5), .int .u64 (uv r.x6), .int .u64 (uv r.x7), .int .u64 (uv r.s2), .int .u64 (uv r.s0), .int .u64 (uv r.s1), .int .u64 (uv r.s2), .int .u64 (uv r.pc), .int .u64 (uv a), .int .u64 (uv b)]) (by simp [results, Try.results32, go_sem]) rfl ⟨rfl, ?_⟩
  exact two_new
set_option maxHeartbeats 4000000 in
theorem gback (r : RG)  (w : World) :
    Calls Try.prog 34 #[.agg (rgA r)] w fun e w' => e = .returned (.agg #[.int .u64 (uv r.x0), .int .u64 (uv r.x1), .int .u64 (uv r.x2), .int .u64 (uv r.x3), .int .u64 (uv r.x4), .int .u64 (uv r.x5), .int .u64 (uv r.x6), .int .u64 (uv r.x7), .int .u64 (uv r.s3), .int .u64 (uv r.s0), .int .u64 (uv r.s1), .int .u64 (uv r.s2), .int .u64 (uv r.s3), .int .u64 (uv r.s4), .int .u64 (uv r.s5)]) ∧ Below w.heap.size w w' := by
  unfold rgA
  go_enter Try.func34, Try.ntmps34
  go_wp2
  refine bodyPost_ret (v := .agg #[.int .u64 (uv r.x0), .int .u64 (uv r.x1), .int .u64 (uv r.x2), .int .u64 (uv r.x3), .int .u64 (uv r.x4), .int .u64 (uv r.x5), .int .u64 (uv r.x6), .int .u64 (uv r.x7), .int .u64 (uv r.s3), .int .u64 (uv r.s0), .int .u64 (uv r.s1), .int .u64 (uv r.s2), .int .u64 (uv r.s3), .int .u64 (uv r.s4), .int .u64 (uv r.s5)]) (by simp [results, Try.results34, go_sem]) rfl ⟨rfl, ?_⟩
  exact two_new
set_option maxHeartbeats 4000000 in
theorem rrtrap (r : RG) (a b : BitVec 64) (w : World) :
    Calls Try.prog 33 #[.agg (rgA r), .int .u64 (uv a), .int .u64 (uv b)] w fun e w' => e = .returned (.agg #[.int .u64 (uv r.x0), .int .u64 (uv r.x1), .int .u64 (uv r.x2), .int .u64 (uv r.x3), .int .u64 (uv r.x4), .int .u64 (uv r.x5), .int .u64 (uv r.x6), .int .u64 (uv r.x7), .int .u64 (uv r.s2), .int .u64 (uv r.s0), .int .u64 (uv r.s1), .int .u64 (uv r.s2), .int .u64 (uv r.pc), .int .u64 (uv a), .int .u64 (uv b)]) ∧ Below w.heap.size w w' := by
  unfold rgA
  go_enter Try.func33, Try.ntmps33
  go_wp2
  refine bodyPost_ret (v := .agg #[.int .u64 (uv r.x0), .int .u64 (uv r.x1), .int .u64 (uv r.x2), .int .u64 (uv r.x3), .int .u64 (uv r.x4), .int .u64 (uv r.x5), .int .u64 (uv r.x6), .int .u64 (uv r.x7), .int .u64 (uv r.s2), .int .u64 (uv r.s0), .int .u64 (uv r.s1), .int .u64 (uv r.s2), .int .u64 (uv r.pc), .int .u64 (uv a), .int .u64 (uv b)]) (by simp [results, Try.results33, go_sem]) rfl ⟨rfl, ?_⟩
  exact two_new
set_option maxHeartbeats 4000000 in
theorem rrback (r : RG)  (w : World) :
    Calls Try.prog 35 #[.agg (rgA r)] w fun e w' => e = .returned (.agg #[.int .u64 (uv r.x0), .int .u64 (uv r.x1), .int .u64 (uv r.x2), .int .u64 (uv r.x3), .int .u64 (uv r.x4), .int .u64 (uv r.x5), .int .u64 (uv r.x6), .int .u64 (uv r.x7), .int .u64 (uv r.s3), .int .u64 (uv r.s0), .int .u64 (uv r.s1), .int .u64 (uv r.s2), .int .u64 (uv r.s3), .int .u64 (uv r.s4), .int .u64 (uv r.s5)]) ∧ Below w.heap.size w w' := by
  unfold rgA
  go_enter Try.func35, Try.ntmps35
  go_wp2
  refine bodyPost_ret (v := .agg #[.int .u64 (uv r.x0), .int .u64 (uv r.x1), .int .u64 (uv r.x2), .int .u64 (uv r.x3), .int .u64 (uv r.x4), .int .u64 (uv r.x5), .int .u64 (uv r.x6), .int .u64 (uv r.x7), .int .u64 (uv r.s3), .int .u64 (uv r.s0), .int .u64 (uv r.s1), .int .u64 (uv r.s2), .int .u64 (uv r.s3), .int .u64 (uv r.s4), .int .u64 (uv r.s5)]) (by simp [results, Try.results35, go_sem]) rfl ⟨rfl, ?_⟩
  exact two_new
end Go.Proofs.Ytfialajiaphciaa
