/- The contracts of the reference's Sys, Get; and Set of any register. -/
import Derived.Test.YtfialajiaphciaaRg2
import Derived.Test.YtfialajiaphciaaRg3
import Derived.Test.YtfialajiaphciaaRg4
import Derived.Test.YtfialajiaphciaaRg5
import Derived.Test.YtfialajiaphciaaRg7
namespace Go.Proofs.Ytfialajiaphciaa
open Go.RowKit
attribute [local go_sem] uv_and uv_or uv_xor uv_andNot uv_shr uv_shl uv_add uv_sub uv_neg uv_beq uv_beq0 uv_beq1 uv_bne uv_bne0 u64_signed uv_not sv_i64 sv_shr uv_sv ones_shr sv_w64 uv_and1 uv_mul4 uv_4mul uv_add4

theorem rrsys (k : Int) (b : Bool) (w : World) (h : btwB k 0 5 = b) :
    Calls Try.prog 26 #[.int .i64 k] w fun e w' => e = .returned (.bool b) ∧ w = w' := by
  have H := Lib.hid h
  clear h
  go_enter Try.func26, Try.ntmps26
  go_wp2_with (go_at_call 42; refine (rnum_any _ _ _ _ H.out).mono ?_; rintro e w1 ⟨rfl, rfl⟩)
  go_ret
  exact ⟨rfl, rfl⟩
set_option maxHeartbeats 4000000 in
theorem rrget (r : RG) (k : Int) (w : World) (h : btwB k 0 5 = true) :
    Calls Try.prog 27 #[.agg (rgA r), .int .i64 k] w fun e w' => e = .returned (.int .u64 (uv (sysV r k))) ∧ Below w.heap.size w w' := by
  rcases six h with rfl | rfl | rfl | rfl | rfl | rfl
  all_goals
    clear h
    unfold rgA
    go_enter Try.func27, Try.ntmps27
    go_wp2
    go_ret
    exact ⟨rfl, two_new⟩
theorem gset (r : RG) (k : Int) (v : BitVec 64) (w : World) (h : btwB k 0 5 = true) :
    Calls Try.prog 25 #[.agg (rgA r), .int .i64 k, .int .u64 (uv v)] w fun e w' => e = .returned (.tuple #[.agg (rgA (setV r k v)), .int .i64 0]) ∧ Below w.heap.size w w' := by
  rcases six h with rfl | rfl | rfl | rfl | rfl | rfl
  · exact gset0 r v w
  · exact gset1 r v w
  · exact gset2 r v w
  · exact gset3 r v w
  · exact gset4 r v w
  · exact gset5 r v w
theorem rrset (r : RG) (k : Int) (v : BitVec 64) (w : World) (h : btwB k 0 5 = true) :
    Calls Try.prog 28 #[.agg (rgA r), .int .i64 k, .int .u64 (uv v)] w fun e w' => e = .returned (.agg (rgA (setV r k v))) ∧ Below w.heap.size w w' := by
  rcases six h with rfl | rfl | rfl | rfl | rfl | rfl
  · exact rrset0 r v w
  · exact rrset1 r v w
  · exact rrset2 r v w
  · exact rrset3 r v w
  · exact rrset4 r v w
  · exact rrset5 r v w
def trapV (r : RG) (a b : BitVec 64) : RG := { r with s3 := r.pc, s4 := a, s5 := b, pc := r.s2 }
def backV (r : RG) : RG := { r with pc := r.s3 }
theorem trap_any (r : RG) (a b : BitVec 64) (w : World) :
    Calls Try.prog 32 #[.agg (rgA r), .int .u64 (uv a), .int .u64 (uv b)] w fun e w' => e = .returned (.agg (rgA (trapV r a b))) ∧ Below w.heap.size w w' := gtrap r a b w
theorem rtrap_any (r : RG) (a b : BitVec 64) (w : World) :
    Calls Try.prog 33 #[.agg (rgA r), .int .u64 (uv a), .int .u64 (uv b)] w fun e w' => e = .returned (.agg (rgA (trapV r a b))) ∧ Below w.heap.size w w' := rrtrap r a b w
theorem back_any (r : RG) (w : World) :
    Calls Try.prog 34 #[.agg (rgA r)] w fun e w' => e = .returned (.agg (rgA (backV r))) ∧ Below w.heap.size w w' := gback r w
theorem rback_any (r : RG) (w : World) :
    Calls Try.prog 35 #[.agg (rgA r)] w fun e w' => e = .returned (.agg (rgA (backV r))) ∧ Below w.heap.size w w' := rrback r w
end Go.Proofs.Ytfialajiaphciaa
