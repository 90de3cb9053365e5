/- The contracts of package root, and of the reference's roots. -/
import Derived.Test.YtfialajiaphciaaWb
import Derived.Test.YtfialajiaphciaaRb
import Derived.Test.YtfialajiaphciaaUroot
namespace Go.Proofs.Ytfialajiaphciaa
open Go.RowKit
theorem uv_and1 (x : BitVec 64) : bits .and .u64 (uv x) 1 = uv (x &&& 1#64) := uv_and x 1#64
attribute [local go_sem] uv_and uv_or uv_xor uv_andNot uv_shr uv_shl uv_add uv_sub uv_neg uv_beq uv_beq0 uv_beq1 uv_bne uv_bne0 u64_signed uv_not sv_i64 sv_shr uv_sv ones_shr sv_w64 uv_and1

def FieldsPost (fs : List (Int × Int × BitVec 64)) (l : Nat) (w : World) (e : Ending) (w' : World) : Prop :=
  ∃ p, e = .returned (.slice p l l) ∧ Below w.heap.size w w' ∧ FieldsL w' p fs

set_option maxHeartbeats 1000000 in
theorem rfields (on : Bool) (f t : Int) (w : World) :
    Calls Try.prog 40 #[.agg #[.bool on, .int .i64 f, .int .i64 t]] w (FieldsPost (rootL on f t) 3 w) := by
  have i1 := uv_ofInt f
  have i2 := uv_ofInt t
  cases on
  all_goals
    go_enter Try.func40, Try.ntmps40
    go_wp2
    go_ret
    refine ⟨some ⟨w.heap.size + 2, 0, none⟩, rfl, (((Below.refl _ _).alloc (Nat.le_refl _) _).alloc (by simp) _).alloc (by simp; omega) _, w.heap.size + 2, 0, fun _ => rfl, ?_⟩
    intro j a k x hj
    match j, hj with
    | 0, hj => simp [rootL] at hj; obtain ⟨rfl, rfl, rfl⟩ := hj; simp [go_sem]; rfl
    | 1, hj => simp [rootL] at hj; obtain ⟨rfl, rfl, rfl⟩ := hj; simp [go_sem]
    | 2, hj => simp [rootL] at hj; obtain ⟨rfl, rfl, rfl⟩ := hj; simp [go_sem]
    | j + 3, hj => simp [rootL] at hj
set_option maxHeartbeats 1000000 in
theorem rword_yes (on : Bool) (f t : Int) (w : World) (h : okR f t = true) :
    Calls Try.prog 9 #[.agg #[.bool on, .int .i64 f, .int .i64 t]] w fun e w' => e = .returned (.tuple #[.int .u64 (uv (rootB on f t)), .int .i64 0]) ∧ Below w.heap.size w w' := by
  obtain ⟨T, hj⟩ := join_root on f t h
  unfold okR at h
  rw [Bool.and_eq_true] at h
  obtain ⟨b1, b2⟩ := btw_of_yes h.1
  obtain ⟨b3, b4⟩ := btw_of_yes h.2
  have HJ := Lib.hid hj
  clear h hj
  go_enter Try.func9, Try.ntmps9
  go_wp2_with (first
    | (go_at_call 40; refine (rfields _ _ _ _).mono ?_; rintro e w2 ⟨p, rfl, hb2, hf2⟩)
    | (go_at_call 39; refine (join_any p 3 3 (rootL on f t) _ T 0 _ rfl (by unfold maxLen; omega) hf2 HJ.out).mono ?_; rintro e w3 ⟨rfl, hb3⟩))
  go_ret2
  have z2 := hb2.size
  simp at z2
  exact ⟨rfl, (((Below.refl _ _).alloc (Nat.le_refl _) _).trans (hb2.mono (by simp))).trans (hb3.mono (by omega))⟩
set_option maxHeartbeats 1000000 in
theorem rword_no (on : Bool) (f t : Int) (w : World) (h : okR f t = false) :
    Calls Try.prog 9 #[.agg #[.bool on, .int .i64 f, .int .i64 t]] w fun e w' => e = .returned (.tuple #[.int .u64 0, .int .i64 1]) ∧ Below w.heap.size w w' := by
  have h' : f < 0 ∨ (0 ≤ f ∧ 4095 < f) ∨ (0 ≤ f ∧ f ≤ 4095 ∧ t < 0) ∨ (0 ≤ f ∧ f ≤ 4095 ∧ 0 ≤ t ∧ 15 < t) := by
    unfold okR at h
    rcases hf : btwB f 0 4095 with _ | _
    · rcases btw_of_no hf with h1 | h1 <;> omega
    · rw [hf, Bool.true_and] at h
      have := btw_of_yes hf
      rcases btw_of_no h with h1 | h1 <;> omega
  clear h
  rcases h' with h1 | ⟨h1, h2⟩ | ⟨h1, h2, h3⟩ | ⟨h1, h2, h3, h4⟩
  all_goals
    go_enter Try.func9, Try.ntmps9
    go_wp2_with fail
    go_ret2
    exact ⟨rfl, (Below.refl _ _).alloc (Nat.le_refl _) _⟩
end Go.Proofs.Ytfialajiaphciaa
