/- The contracts of package regs. -/
import Derived.Test.YtfialajiaphciaaRootOf
import Derived.Test.YtfialajiaphciaaBlk
namespace Go.Proofs.Ytfialajiaphciaa
open Go.RowKit
theorem uv_mul4 (x : BitVec 64) : IntKind.u64.wrap (uv x * 4) = uv (x * 4#64) := by
  rw [IntKind.wrap_u64]; unfold uv; rw [BitVec.toNat_mul]; simp
theorem uv_4mul (x : BitVec 64) : IntKind.u64.wrap (4 * uv x) = uv (x * 4#64) := by
  rw [Int.mul_comm, uv_mul4]
theorem uv_add4 (x : BitVec 64) : IntKind.u64.wrap (uv x + 4) = uv (x + 4#64) := by
  rw [← uv_add]; rfl
attribute [local go_sem] uv_and uv_or uv_xor uv_andNot uv_shr uv_shl uv_add uv_sub uv_neg uv_beq uv_beq0 uv_beq1 uv_bne uv_bne0 u64_signed uv_not sv_i64 sv_shr uv_sv ones_shr sv_w64 uv_and1 uv_mul4 uv_4mul uv_add4

/-- registers -/
structure RG where
  (x0 x1 x2 x3 x4 x5 x6 x7 pc s0 s1 s2 s3 s4 s5 : BitVec 64)
def rgA (r : RG) : Array Value := #[.int .u64 (uv r.x0), .int .u64 (uv r.x1), .int .u64 (uv r.x2), .int .u64 (uv r.x3), .int .u64 (uv r.x4), .int .u64 (uv r.x5), .int .u64 (uv r.x6), .int .u64 (uv r.x7), .int .u64 (uv r.pc), .int .u64 (uv r.s0), .int .u64 (uv r.s1), .int .u64 (uv r.s2), .int .u64 (uv r.s3), .int .u64 (uv r.s4), .int .u64 (uv r.s5)]
def zeroRG : RG := ⟨0#64, 0#64, 0#64, 0#64, 0#64, 0#64, 0#64, 0#64, 0#64, 0#64, 0#64, 0#64, 0#64, 0#64, 0#64⟩
def sysV (r : RG) (k : Int) : BitVec 64 := if k = 0 then r.s0 else if k = 1 then r.s1 else if k = 2 then r.s2 else if k = 3 then r.s3 else if k = 4 then r.s4 else r.s5
def setV (r : RG) (k : Int) (v : BitVec 64) : RG := if k = 0 then { r with s0 := v } else if k = 1 then { r with s1 := v } else if k = 2 then { r with s2 := v } else if k = 3 then { r with s3 := v } else if k = 4 then { r with s4 := v } else { r with s5 := v }
theorem six {k : Int} (h : btwB k 0 5 = true) : k = 0 ∨ k = 1 ∨ k = 2 ∨ k = 3 ∨ k = 4 ∨ k = 5 := by
  have := btw_of_yes h
  omega
theorem not_six {k : Int} (h : btwB k 0 5 = false) : (k == 0) = false ∧ (k == 1) = false ∧ (k == 2) = false ∧ (k == 3) = false ∧ (k == 4) = false ∧ (k == 5) = false := by
  simp only [beq_eq_false_iff_ne]
  rcases btw_of_no h with h | h <;> omega

theorem system_yes (g : Nat) (k : Int) (w : World) (h : btwB k 0 5 = true) :
    Calls Try.prog 49 #[.pointer (some ⟨g, 0, none⟩), .int .i64 k] w fun e w' => e = .returned (.pointer (some ⟨g, 9 + k.toNat, none⟩)) ∧ w = w' := by
  rcases six h with rfl | rfl | rfl | rfl | rfl | rfl
  all_goals
    clear h
    go_enter Try.func49, Try.ntmps49
    go_wp2
    go_ret
    exact ⟨rfl, rfl⟩
theorem system_no (g : Nat) (k : Int) (w : World) (h : btwB k 0 5 = false) :
    Calls Try.prog 49 #[.pointer (some ⟨g, 0, none⟩), .int .i64 k] w fun e w' => e = .returned (.pointer none) ∧ w = w' := by
  obtain ⟨h0, h1, h2, h3, h4, h5⟩ := not_six h
  clear h
  go_enter Try.func49, Try.ntmps49
  go_wp2
  go_ret
  exact ⟨rfl, rfl⟩
theorem sys_cell {w : World} {g : Nat} {r : RG} (h : Blk w g (rgA r)) (k : Int) (hk : btwB k 0 5 = true) : w.cell? ⟨g, 9 + k.toNat, none⟩ = some (.int .u64 (uv (sysV r k))) := by
  rw [h.cell]
  rcases six hk with rfl | rfl | rfl | rfl | rfl | rfl <;> rfl
theorem three_new {w : World} {o1 o2 o3 : Obj} : Below w.heap.size w (((w.alloc o1).alloc o2).alloc o3) := (((Below.refl _ _).alloc (Nat.le_refl _) _).alloc (by simp) _).alloc (by simp; omega) _
theorem two_new {w : World} {o1 o2 : Obj} : Below w.heap.size w ((w.alloc o1).alloc o2) := ((Below.refl _ _).alloc (Nat.le_refl _) _).alloc (by simp) _
set_option maxHeartbeats 1000000 in
theorem gget (r : RG) (k : Int) (b : Bool) (w : World) (h : btwB k 0 5 = b) :
    Calls Try.prog 24 #[.agg (rgA r), .int .i64 k] w fun e w' => e = .returned (.tuple #[.int .u64 (uv (if b then sysV r k else 0#64)), .int .i64 (if b then 0 else 1)]) ∧ Below w.heap.size w w' := by
  have H := Lib.hid h
  clear h
  cases b
  · unfold rgA
    go_enter Try.func24, Try.ntmps24
    go_wp2_with (go_at_call 49; refine (system_no _ _ _ H.out).mono ?_; rintro e w1 ⟨rfl, rfl⟩)
    go_ret2
    exact ⟨rfl, two_new⟩
  · have hc := sys_cell (Blk.new_at (w.alloc (.cells (rgA r) 60)) (rgA r) 96 (w.heap.size + 1) (by simp)) k H.out
    unfold rgA at hc ⊢
    have HC := Lib.hid hc
    clear hc
    go_enter Try.func24, Try.ntmps24
    go_wp2_with (go_at_call 49; refine (system_yes _ _ _ H.out).mono ?_; rintro e w1 ⟨rfl, rfl⟩; have hc := HC.out)
    go_ret2
    exact ⟨rfl, two_new⟩
end Go.Proofs.Ytfialajiaphciaa
