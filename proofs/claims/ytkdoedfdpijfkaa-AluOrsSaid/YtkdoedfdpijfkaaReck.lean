/- What the statements reckon bit by bit. -/
import Derived.Test.YtkdoedfdpijfkaaRows
import Derived.Test.YtkdoedfdpijfkaaAdd
namespace Go.Proofs.Ytkdoedfdpijfkaa
open Go.RowKit
attribute [local go_sem] uv_and uv_or uv_xor uv_andNot uv_shr uv_shl uv_add uv_sub uv_neg uv_beq uv_beq0 uv_beq1 uv_bne0 u64_signed uv_not sv_i64 sv_shr uv_sv ones_shr uv_and1 uv_mul uv_rem2 uv_quo2 uv_wrap

/-- quiet: the call draws, and does nothing else -/
def Drawn (v : Value) (w : World) (e : Ending) (w' : World) : Prop := e = .returned v ∧ ∃ m, w' = w.drewN m

theorem reckon_1 (n m : BitVec 64) (imm : Int) (w : World) :
    Calls Try.prog 20 #[.int .i64 1, .int .u64 (uv n), .int .u64 (uv m), .int .i64 imm] w (Drawn (.int .u64 (uv (BitVec.ofInt 64 imm))) w) := by
  have hI := uv_ofInt imm
  go_enter Try.func20, Try.ntmps20
  go_wp2
  go_ret
  exact ⟨rfl, 0, rfl⟩

set_option maxRecDepth 100000 in
set_option maxHeartbeats 4000000 in
theorem reckon_4 (n m : BitVec 64) (imm : Int) (w : World) :
    Calls Try.prog 20 #[.int .i64 4, .int .u64 (uv n), .int .u64 (uv m), .int .i64 imm] w (Drawn (.int .u64 (uv (n &&& m))) w) := by
  go_enter Try.func20, Try.ntmps20
  go_wp2
  go_loopw [9, 13] (fun v i wr => ∃ (k nq : Nat), k ≤ 64 ∧ i = .int .i64 k ∧ v = .int .u64 (uv ((n &&& m) &&& lowB k)) ∧ wr = w.drewN nq) (fun _ i _ => 64 - (intOf i).toNat)
  case atStart => exact ⟨0, 0, Nat.zero_le _, rfl, by rw [acc_zero]; rfl, rfl⟩
  case round =>
    obtain ⟨k, nq, hk, rfl, rfl, rfl⟩ := hrel
    by_cases hlt : k < 64
    · have k0 : (0 : Int) ≤ (k : Int) := Int.natCast_nonneg _
      have hs := acc_step (n &&& m) k hlt
      rw [gb_and, ← bits_and] at hs
      have HS := Lib.hid hs
      clear hs
      have b1 := bit_at n k
      have b2 := bit_at m k
      go_wp2_with fail
      go_quiet (fail)
      go_wp2
      go_roundw
      case rel => exact ⟨k + 1, _, by omega, by go_num, by rw [← HS.out], rfl⟩
      case measure => simp [intOf]; omega
    · have e := acc_all (n &&& m) k (by omega)
      have HE := Lib.hid e
      clear e
      go_wp2
      go_ret
      exact ⟨by rw [HE.out]; rfl, nq, rfl⟩

set_option maxRecDepth 100000 in
set_option maxHeartbeats 4000000 in
theorem reckon_5 (n m : BitVec 64) (imm : Int) (w : World) :
    Calls Try.prog 20 #[.int .i64 5, .int .u64 (uv n), .int .u64 (uv m), .int .i64 imm] w (Drawn (.int .u64 (uv (n ||| m))) w) := by
  go_enter Try.func20, Try.ntmps20
  go_wp2
  go_loopw [9, 13] (fun v i wr => ∃ (k nq : Nat), k ≤ 64 ∧ i = .int .i64 k ∧ v = .int .u64 (uv ((n ||| m) &&& lowB k)) ∧ wr = w.drewN nq) (fun _ i _ => 64 - (intOf i).toNat)
  case atStart => exact ⟨0, 0, Nat.zero_le _, rfl, by rw [acc_zero]; rfl, rfl⟩
  case round =>
    obtain ⟨k, nq, hk, rfl, rfl, rfl⟩ := hrel
    by_cases hlt : k < 64
    · have k0 : (0 : Int) ≤ (k : Int) := Int.natCast_nonneg _
      have hs := acc_step (n ||| m) k hlt
      rw [gb_or, ← bits_or, ← bits_and] at hs
      have HS := Lib.hid hs
      clear hs
      have b1 := bit_at n k
      have b2 := bit_at m k
      go_wp2_with fail
      go_quiet (fail)
      go_wp2
      go_roundw
      case rel => exact ⟨k + 1, _, by omega, by go_num, by rw [← HS.out], rfl⟩
      case measure => simp [intOf]; omega
    · have e := acc_all (n ||| m) k (by omega)
      have HE := Lib.hid e
      clear e
      go_wp2
      go_ret
      exact ⟨by rw [HE.out]; rfl, nq, rfl⟩

set_option maxRecDepth 100000 in
set_option maxHeartbeats 4000000 in
theorem reckon_6 (n m : BitVec 64) (imm : Int) (w : World) :
    Calls Try.prog 20 #[.int .i64 6, .int .u64 (uv n), .int .u64 (uv m), .int .i64 imm] w (Drawn (.int .u64 (uv (n ^^^ m))) w) := by
  go_enter Try.func20, Try.ntmps20
  go_wp2
  go_loopw [9, 13] (fun v i wr => ∃ (k nq : Nat), k ≤ 64 ∧ i = .int .i64 k ∧ v = .int .u64 (uv ((n ^^^ m) &&& lowB k)) ∧ wr = w.drewN nq) (fun _ i _ => 64 - (intOf i).toNat)
  case atStart => exact ⟨0, 0, Nat.zero_le _, rfl, by rw [acc_zero]; rfl, rfl⟩
  case round =>
    obtain ⟨k, nq, hk, rfl, rfl, rfl⟩ := hrel
    by_cases hlt : k < 64
    · have k0 : (0 : Int) ≤ (k : Int) := Int.natCast_nonneg _
      have hs := acc_step (n ^^^ m) k hlt
      rw [gb_xor, ← bits_xor] at hs
      have HS := Lib.hid hs
      clear hs
      have b1 := bit_at n k
      have b2 := bit_at m k
      go_wp2_with fail
      go_quiet (fail)
      go_wp2
      go_roundw
      case rel => exact ⟨k + 1, _, by omega, by go_num, by rw [← HS.out], rfl⟩
      case measure => simp [intOf]; omega
    · have e := acc_all (n ^^^ m) k (by omega)
      have HE := Lib.hid e
      clear e
      go_wp2
      go_ret
      exact ⟨by rw [HE.out]; rfl, nq, rfl⟩

set_option maxRecDepth 100000 in
set_option maxHeartbeats 4000000 in
theorem reckon_2z (n m : BitVec 64) (w : World) :
    Calls Try.prog 20 #[.int .i64 2, .int .u64 (uv n), .int .u64 (uv m), .int .i64 0] w (Drawn (.int .u64 (uv (addB n (m) false))) w) := by
  go_enter Try.func20, Try.ntmps20
  go_wp2
  go_loopw [9, 10, 13] (fun v c i wr => ∃ (k nq : Nat), k ≤ 64 ∧ i = .int .i64 k ∧ v = .int .u64 (uv (addB n (m) false &&& lowB k)) ∧ c = .int .u64 (uv (bitB (BitVec.carry k n (m) false))) ∧ wr = w.drewN nq) (fun _ _ i _ => 64 - (intOf i).toNat)
  case atStart => exact ⟨0, 0, Nat.zero_le _, rfl, by rw [acc_zero]; rfl, by rw [carry_zero]; rfl, rfl⟩
  case round =>
    obtain ⟨k, nq, hk, rfl, rfl, rfl, rfl⟩ := hrel
    by_cases hlt : k < 64
    · have k0 : (0 : Int) ≤ (k : Int) := Int.natCast_nonneg _
      have hs := acc_step (addB n (m) false) k hlt
      rw [add_bit _ _ _ _ hlt, ← bits_sum] at hs
      have hc := bits_carry (gb n k) (gb (m) k) (BitVec.carry k n (m) false)
      rw [← carry_step] at hc
      have HS := Lib.hid hs
      have HC := Lib.hid hc
      clear hs hc
      have b1 := bit_at n k
      have b2 := bit_at (m) k
      go_wp2_with fail
      go_quiet (fail)
      go_wp2
      go_roundw
      case rel => exact ⟨k + 1, _, by omega, by go_num, by rw [← HS.out], by rw [← HC.out], rfl⟩
      case measure => simp [intOf]; omega
    · have e := acc_all (addB n (m) false) k (by omega)
      have HE := Lib.hid e
      clear e
      go_wp2
      go_ret
      exact ⟨by rw [HE.out]; rfl, nq, rfl⟩

set_option maxRecDepth 100000 in
set_option maxHeartbeats 4000000 in
theorem reckon_3z (n m : BitVec 64) (w : World) :
    Calls Try.prog 20 #[.int .i64 3, .int .u64 (uv n), .int .u64 (uv m), .int .i64 0] w (Drawn (.int .u64 (uv (addB n (~~~m) true))) w) := by
  go_enter Try.func20, Try.ntmps20
  go_wp2
  go_loopw [9, 10, 13] (fun v c i wr => ∃ (k nq : Nat), k ≤ 64 ∧ i = .int .i64 k ∧ v = .int .u64 (uv (addB n (~~~m) true &&& lowB k)) ∧ c = .int .u64 (uv (bitB (BitVec.carry k n (~~~m) true))) ∧ wr = w.drewN nq) (fun _ _ i _ => 64 - (intOf i).toNat)
  case atStart => exact ⟨0, 0, Nat.zero_le _, rfl, by rw [acc_zero]; rfl, by rw [carry_zero]; rfl, rfl⟩
  case round =>
    obtain ⟨k, nq, hk, rfl, rfl, rfl, rfl⟩ := hrel
    by_cases hlt : k < 64
    · have k0 : (0 : Int) ≤ (k : Int) := Int.natCast_nonneg _
      have hs := acc_step (addB n (~~~m) true) k hlt
      rw [add_bit _ _ _ _ hlt, ← bits_sum] at hs
      have hc := bits_carry (gb n k) (gb (~~~m) k) (BitVec.carry k n (~~~m) true)
      rw [← carry_step] at hc
      have HS := Lib.hid hs
      have HC := Lib.hid hc
      clear hs hc
      have b1 := bit_at n k
      have b2 := bit_at (~~~m) k
      go_wp2_with fail
      go_quiet (fail)
      go_wp2
      go_roundw
      case rel => exact ⟨k + 1, _, by omega, by go_num, by rw [← HS.out], by rw [← HC.out], rfl⟩
      case measure => simp [intOf]; omega
    · have e := acc_all (addB n (~~~m) true) k (by omega)
      have HE := Lib.hid e
      clear e
      go_wp2
      go_ret
      exact ⟨by rw [HE.out]; rfl, nq, rfl⟩
set_option maxRecDepth 100000 in
set_option maxHeartbeats 4000000 in
theorem reckon_2n (n m : BitVec 64) (imm : Int) (w : World) (h0 : imm ≠ 0) :
    Calls Try.prog 20 #[.int .i64 2, .int .u64 (uv n), .int .u64 (uv m), .int .i64 imm] w (Drawn (.int .u64 (uv (addB (addB n (m) false) (BitVec.ofInt 64 imm) false))) w) := by
  go_enter Try.func20, Try.ntmps20
  go_wp2
  go_loopw [9, 10, 13] (fun v c i wr => ∃ (k nq : Nat), k ≤ 64 ∧ i = .int .i64 k ∧ v = .int .u64 (uv (addB n (m) false &&& lowB k)) ∧ c = .int .u64 (uv (bitB (BitVec.carry k n (m) false))) ∧ wr = w.drewN nq) (fun _ _ i _ => 64 - (intOf i).toNat)
  case atStart => exact ⟨0, 0, Nat.zero_le _, rfl, by rw [acc_zero]; rfl, by rw [carry_zero]; rfl, rfl⟩
  case round =>
    obtain ⟨k, nq, hk, rfl, rfl, rfl, rfl⟩ := hrel
    by_cases hlt : k < 64
    · have k0 : (0 : Int) ≤ (k : Int) := Int.natCast_nonneg _
      have hs := acc_step (addB n (m) false) k hlt
      rw [add_bit _ _ _ _ hlt, ← bits_sum] at hs
      have hc := bits_carry (gb n k) (gb (m) k) (BitVec.carry k n (m) false)
      rw [← carry_step] at hc
      have HS := Lib.hid hs
      have HC := Lib.hid hc
      clear hs hc
      have b1 := bit_at n k
      have b2 := bit_at (m) k
      go_wp2_with fail
      go_quiet (fail)
      go_wp2
      go_roundw
      case rel => exact ⟨k + 1, _, by omega, by go_num, by rw [← HS.out], by rw [← HC.out], rfl⟩
      case measure => simp [intOf]; omega
    · have e := acc_all (addB n (m) false) k (by omega)
      have HE := Lib.hid e
      clear e
      have hI := uv_ofInt imm
      have h0' : (imm != 0) = true := by rw [bne_iff_ne]; exact h0
      go_wp2_with (go_at_call 20; rw [HE.out]; refine (reckon_2z _ _ _).mono ?_; rintro e w1 ⟨rfl, nq1, rfl⟩)
      go_ret
      exact ⟨rfl, nq + nq1, by first | rfl | rw [World.drewN_drewN]⟩

set_option maxRecDepth 100000 in
set_option maxHeartbeats 4000000 in
theorem reckon_3n (n m : BitVec 64) (imm : Int) (w : World) (h0 : imm ≠ 0) :
    Calls Try.prog 20 #[.int .i64 3, .int .u64 (uv n), .int .u64 (uv m), .int .i64 imm] w (Drawn (.int .u64 (uv (addB (addB n (~~~m) true) (~~~(BitVec.ofInt 64 imm)) true))) w) := by
  go_enter Try.func20, Try.ntmps20
  go_wp2
  go_loopw [9, 10, 13] (fun v c i wr => ∃ (k nq : Nat), k ≤ 64 ∧ i = .int .i64 k ∧ v = .int .u64 (uv (addB n (~~~m) true &&& lowB k)) ∧ c = .int .u64 (uv (bitB (BitVec.carry k n (~~~m) true))) ∧ wr = w.drewN nq) (fun _ _ i _ => 64 - (intOf i).toNat)
  case atStart => exact ⟨0, 0, Nat.zero_le _, rfl, by rw [acc_zero]; rfl, by rw [carry_zero]; rfl, rfl⟩
  case round =>
    obtain ⟨k, nq, hk, rfl, rfl, rfl, rfl⟩ := hrel
    by_cases hlt : k < 64
    · have k0 : (0 : Int) ≤ (k : Int) := Int.natCast_nonneg _
      have hs := acc_step (addB n (~~~m) true) k hlt
      rw [add_bit _ _ _ _ hlt, ← bits_sum] at hs
      have hc := bits_carry (gb n k) (gb (~~~m) k) (BitVec.carry k n (~~~m) true)
      rw [← carry_step] at hc
      have HS := Lib.hid hs
      have HC := Lib.hid hc
      clear hs hc
      have b1 := bit_at n k
      have b2 := bit_at (~~~m) k
      go_wp2_with fail
      go_quiet (fail)
      go_wp2
      go_roundw
      case rel => exact ⟨k + 1, _, by omega, by go_num, by rw [← HS.out], by rw [← HC.out], rfl⟩
      case measure => simp [intOf]; omega
    · have e := acc_all (addB n (~~~m) true) k (by omega)
      have HE := Lib.hid e
      clear e
      have hI := uv_ofInt imm
      have h0' : (imm != 0) = true := by rw [bne_iff_ne]; exact h0
      go_wp2_with (go_at_call 20; rw [HE.out]; refine (reckon_3z _ _ _).mono ?_; rintro e w1 ⟨rfl, nq1, rfl⟩)
      go_ret
      exact ⟨rfl, nq + nq1, by first | rfl | rw [World.drewN_drewN]⟩

end Go.Proofs.Ytkdoedfdpijfkaa
