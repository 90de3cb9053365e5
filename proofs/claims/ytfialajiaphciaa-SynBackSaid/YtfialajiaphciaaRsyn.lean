/- The contracts of the reference's faults. -/
import Derived.Test.YtfialajiaphciaaRr
import Derived.Test.YtfialajiaphciaaSof
namespace Go.Proofs.Ytfialajiaphciaa
open Go.RowKit
attribute [local go_sem] uv_and uv_or uv_xor uv_andNot uv_shr uv_shl uv_add uv_sub uv_neg uv_beq uv_beq0 uv_beq1 uv_bne uv_bne0 u64_signed uv_not sv_i64 sv_shr uv_sv ones_shr sv_w64 uv_and1

set_option maxHeartbeats 1000000 in
theorem rfault (k s l : Int) (wk : Bool) (p : Int) (b : Bool) (w : World) (h : okS k s l p = b) :
    Calls Try.prog 17 #[.agg #[.int .i64 k, .int .i64 s, .int .i64 l, .bool wk, .int .i64 p]] w fun e w' => e = .returned (.bool b) ∧ Below w.heap.size w w' := by
  have e : okS k s l p = (btwB k 0 4 && btwB s 0 2 && btwB l 0 3 && btwB p 0 4095) := rfl
  rw [e] at h
  clear e
  rcases h1 : btwB k 0 4 with _ | _
  · rw [h1] at h
    obtain rfl : b = false := by rw [← h]; rfl
    have H1 := Lib.hid h1
    clear h1 h
    go_enter Try.func17, Try.ntmps17
    go_wp2_with fail
    refine (rnum_any _ _ _ _ H1.out).mono ?_
    rintro e w1 ⟨rfl, rfl⟩
    go_wp2
    go_ret
    exact ⟨rfl, (Below.refl _ _).alloc (Nat.le_refl _) _⟩
  rcases h2 : btwB s 0 2 with _ | _
  · rw [h1, h2] at h
    obtain rfl : b = false := by rw [← h]; rfl
    have H1 := Lib.hid h1
    have H2 := Lib.hid h2
    clear h1 h2 h
    go_enter Try.func17, Try.ntmps17
    go_wp2_with fail
    refine (rnum_any _ _ _ _ H1.out).mono ?_
    rintro e w1 ⟨rfl, rfl⟩
    go_wp2_with fail
    refine (rnum_any _ _ _ _ H2.out).mono ?_
    rintro e w1 ⟨rfl, rfl⟩
    go_wp2
    go_ret
    exact ⟨rfl, (Below.refl _ _).alloc (Nat.le_refl _) _⟩
  rcases h3 : btwB l 0 3 with _ | _
  · rw [h1, h2, h3] at h
    obtain rfl : b = false := by rw [← h]; rfl
    have H1 := Lib.hid h1
    have H2 := Lib.hid h2
    have H3 := Lib.hid h3
    clear h1 h2 h3 h
    go_enter Try.func17, Try.ntmps17
    go_wp2_with fail
    refine (rnum_any _ _ _ _ H1.out).mono ?_
    rintro e w1 ⟨rfl, rfl⟩
    go_wp2_with fail
    refine (rnum_any _ _ _ _ H2.out).mono ?_
    rintro e w1 ⟨rfl, rfl⟩
    go_wp2_with fail
    refine (rnum_any _ _ _ _ H3.out).mono ?_
    rintro e w1 ⟨rfl, rfl⟩
    go_wp2
    go_ret
    exact ⟨rfl, (Below.refl _ _).alloc (Nat.le_refl _) _⟩
  · have H1 := Lib.hid h1
    have H2 := Lib.hid h2
    have H3 := Lib.hid h3
    have H4 : Hid (btwB p 0 4095 = b) := Lib.hid (by rw [← h, h1, h2, h3]; rfl)
    clear h1 h2 h3 h
    go_enter Try.func17, Try.ntmps17
    go_wp2_with fail
    refine (rnum_any _ _ _ _ H1.out).mono ?_
    rintro e w1 ⟨rfl, rfl⟩
    go_wp2_with fail
    refine (rnum_any _ _ _ _ H2.out).mono ?_
    rintro e w1 ⟨rfl, rfl⟩
    go_wp2_with fail
    refine (rnum_any _ _ _ _ H3.out).mono ?_
    rintro e w1 ⟨rfl, rfl⟩
    go_wp2_with fail
    refine (rpage_any _ _ _ H4.out).mono ?_
    rintro e w1 ⟨rfl, rfl⟩
    go_wp2
    go_ret
    exact ⟨rfl, (Below.refl _ _).alloc (Nat.le_refl _) _⟩

theorem synL_at (k s l : Int) (wk : Bool) (p : Int) (w : World) (u : TypeId) :
    FieldsL (w.alloc (.cells #[.int .i64 0, .int .i64 3, .int .u64 (uv (BitVec.ofInt 64 k)), .int .i64 3, .int .i64 2, .int .u64 (uv (BitVec.ofInt 64 s)), .int .i64 5, .int .i64 2, .int .u64 (uv (BitVec.ofInt 64 l)), .int .i64 7, .int .i64 1, .int .u64 (uv (onB wk)), .int .i64 8, .int .i64 12, .int .u64 (uv (BitVec.ofInt 64 p))] u)) (some ⟨w.heap.size, 0, none⟩) (synL k s l wk p) := by
  refine ⟨w.heap.size, 0, fun _ => rfl, ?_⟩
  intro j a n x hj
  match j, hj with
  | 0, hj => simp [synL] at hj; obtain ⟨rfl, rfl, rfl⟩ := hj; simp [go_sem]
  | 1, hj => simp [synL] at hj; obtain ⟨rfl, rfl, rfl⟩ := hj; simp [go_sem]
  | 2, hj => simp [synL] at hj; obtain ⟨rfl, rfl, rfl⟩ := hj; simp [go_sem]
  | 3, hj => simp [synL] at hj; obtain ⟨rfl, rfl, rfl⟩ := hj; simp [go_sem]
  | 4, hj => simp [synL] at hj; obtain ⟨rfl, rfl, rfl⟩ := hj; simp [go_sem]
  | j + 5, hj => simp [synL] at hj
set_option maxHeartbeats 4000000 in
theorem rsyn (k s l : Int) (wk : Bool) (p : Int) (w : World) (h : okS k s l p = true) :
    Calls Try.prog 18 #[.agg #[.int .i64 k, .int .i64 s, .int .i64 l, .bool wk, .int .i64 p]] w fun e w' => e = .returned (.int .u64 (uv (synB k s l wk p))) ∧ Below w.heap.size w w' := by
  obtain ⟨T, hj⟩ := join_syn k s l wk p h
  have HJ := Lib.hid hj
  have i1 := uv_ofInt k
  have i2 := uv_ofInt s
  have i3 := uv_ofInt l
  have i4 := uv_ofInt p
  clear h hj
  go_enter Try.func18, Try.ntmps18
  go_wp2
  go_region_held3 (fun w' => w'.cell? ⟨w.heap.size, 0, none⟩ = some (.int .i64 k) ∧ w'.cell? ⟨w.heap.size, 1, none⟩ = some (.int .i64 s) ∧ w'.cell? ⟨w.heap.size, 2, none⟩ = some (.int .i64 l) ∧ w'.cell? ⟨w.heap.size, 3, none⟩ = some (.bool wk) ∧ w'.cell? ⟨w.heap.size, 4, none⟩ = some (.int .i64 p))
    (first | go_keep | exact held5 hb1 (by assumption) | exact held5 hb2 (by assumption) | exact held5 ((Below.refl _ _).alloc (Nat.le_refl _) _) (by assumption))
    (first | (go_at_call 44; refine (rbit _ _ _).mono ?_; rintro e w1 ⟨rfl, hb1⟩) | (go_at_call 43; refine (rjoin (some ⟨w1.heap.size, 0, none⟩) 5 5 (synL k s l wk p) _ T 0 _ rfl (by unfold maxLen; omega) (synL_at k s l wk p w1 _) HJ.out).mono ?_; rintro e w2 ⟨rfl, hb2⟩))
  go_wp2
  go_ret
  have z1 := hb1.size
  simp at z1
  exact ⟨rfl, (((((Below.refl _ _).alloc (Nat.le_refl _) _).drew).trans (hb1.mono (by simp))).alloc (by omega) _).trans (hb2.mono (by simp; omega))⟩
end Go.Proofs.Ytfialajiaphciaa
