/- The contracts of the looks at an instruction: insn.may, insn.Check, and the reference's Insn. -/
import Derived.Test.YtkdoedfdpijfkaaRows
import Derived.Test.YtkdoedfdpijfkaaU64
namespace Go.Proofs.Ytkdoedfdpijfkaa
open Go.RowKit

def btwB (x lo hi : Int) : Bool := decide (lo ≤ x ∧ x ≤ hi)
theorem btw_of_yes {x lo hi : Int} (h : btwB x lo hi = true) : lo ≤ x ∧ x ≤ hi := by simpa [btwB] using h
theorem btw_of_no {x lo hi : Int} (h : btwB x lo hi = false) : x < lo ∨ (lo ≤ x ∧ hi < x) := by
  have h' : ¬ (lo ≤ x ∧ x ≤ hi) := by simpa [btwB] using h
  omega
/-- may an instruction be? -/
def okI (op d n m imm : Int) : Bool :=
  (btwB op 1 16 && btwB d 0 7 && btwB n 0 7 && btwB m 0 7 && btwB imm (-2048) 2047) &&
  (if op = 7 ∨ op = 8 then btwB m 0 3 else if op = 11 ∨ op = 12 then btwB imm 0 5 else if op = 13 then btwB imm 3 5 else true)

theorem between_yes (x lo hi : Int) (w : World) (h : btwB x lo hi = true) :
    Calls Try.prog 23 #[.int .i64 x, .int .i64 lo, .int .i64 hi] w fun e w' => e = .returned (.bool true) ∧ w = w' := by
  obtain ⟨h1, h2⟩ := btw_of_yes h
  clear h
  go_enter Try.func23, Try.ntmps23
  go_wp2
  go_ret
  exact ⟨rfl, rfl⟩
theorem between_no (x lo hi : Int) (w : World) (h : btwB x lo hi = false) :
    Calls Try.prog 23 #[.int .i64 x, .int .i64 lo, .int .i64 hi] w fun e w' => e = .returned (.bool false) ∧ w = w' := by
  rcases btw_of_no h with h1 | ⟨h1, h2⟩
  all_goals
    clear h
    go_enter Try.func23, Try.ntmps23
    go_wp2
    go_ret
    exact ⟨by first | rfl | (simp; omega), rfl⟩
theorem between_any (x lo hi : Int) (b : Bool) (w : World) (h : btwB x lo hi = b) :
    Calls Try.prog 23 #[.int .i64 x, .int .i64 lo, .int .i64 hi] w fun e w' => e = .returned (.bool b) ∧ w = w' := by
  cases b
  · exact between_no x lo hi w h
  · exact between_yes x lo hi w h

set_option maxHeartbeats 4000000 in
theorem mayi_any (op d n m imm : Int) (w : World) :
    Calls Try.prog 21 #[.agg #[.int .i64 op, .int .i64 d, .int .i64 n, .int .i64 m, .int .i64 imm]] w fun e w' => e = .returned (.bool (okI op d n m imm)) ∧ Below w.heap.size w w' := by
  rcases hb1 : btwB op 1 16 with _ | _
  · have hv : okI op d n m imm = false := by simp [okI, hb1]
    have HV := Lib.hid hv
    have H1 := Lib.hid hb1
    clear hv hb1
    go_enter Try.func21, Try.ntmps21
    go_wp2_with (go_at_call 23; refine (between_any _ _ _ _ _ H1.out).mono ?_; rintro e w1 ⟨rfl, rfl⟩)
    go_ret
    exact ⟨by rw [HV.out]; rfl, (Below.refl _ _).alloc (Nat.le_refl _) _⟩
  rcases hb2 : btwB d 0 7 with _ | _
  · have hv : okI op d n m imm = false := by simp [okI, hb2]
    have HV := Lib.hid hv
    have H1 := Lib.hid hb1
    have H2 := Lib.hid hb2
    clear hv hb1 hb2
    go_enter Try.func21, Try.ntmps21
    go_wp2_with (go_at_call 23; first | (with_reducible refine (between_any _ _ _ _ _ H1.out).mono ?_) | (with_reducible refine (between_any _ _ _ _ _ H2.out).mono ?_)
                 rintro e w1 ⟨rfl, rfl⟩)
    go_ret
    exact ⟨by rw [HV.out]; rfl, (Below.refl _ _).alloc (Nat.le_refl _) _⟩
  rcases hb3 : btwB n 0 7 with _ | _
  · have hv : okI op d n m imm = false := by simp [okI, hb3]
    have HV := Lib.hid hv
    have H1 := Lib.hid hb1
    have H2 := Lib.hid hb2
    have H3 := Lib.hid hb3
    clear hv hb1 hb2 hb3
    go_enter Try.func21, Try.ntmps21
    go_wp2_with (go_at_call 23; first | (with_reducible refine (between_any _ _ _ _ _ H1.out).mono ?_) | (with_reducible refine (between_any _ _ _ _ _ H2.out).mono ?_) | (with_reducible refine (between_any _ _ _ _ _ H3.out).mono ?_)
                 rintro e w1 ⟨rfl, rfl⟩)
    go_ret
    exact ⟨by rw [HV.out]; rfl, (Below.refl _ _).alloc (Nat.le_refl _) _⟩
  rcases hb4 : btwB m 0 7 with _ | _
  · have hv : okI op d n m imm = false := by simp [okI, hb4]
    have HV := Lib.hid hv
    have H1 := Lib.hid hb1
    have H2 := Lib.hid hb2
    have H3 := Lib.hid hb3
    have H4 := Lib.hid hb4
    clear hv hb1 hb2 hb3 hb4
    go_enter Try.func21, Try.ntmps21
    go_wp2_with (go_at_call 23; first | (with_reducible refine (between_any _ _ _ _ _ H1.out).mono ?_) | (with_reducible refine (between_any _ _ _ _ _ H2.out).mono ?_) | (with_reducible refine (between_any _ _ _ _ _ H3.out).mono ?_) | (with_reducible refine (between_any _ _ _ _ _ H4.out).mono ?_)
                 rintro e w1 ⟨rfl, rfl⟩)
    go_ret
    exact ⟨by rw [HV.out]; rfl, (Below.refl _ _).alloc (Nat.le_refl _) _⟩
  rcases hb5 : btwB imm (-2048) 2047 with _ | _
  · have hv : okI op d n m imm = false := by simp [okI, hb5]
    have HV := Lib.hid hv
    have H1 := Lib.hid hb1
    have H2 := Lib.hid hb2
    have H3 := Lib.hid hb3
    have H4 := Lib.hid hb4
    have H5 := Lib.hid hb5
    clear hv hb1 hb2 hb3 hb4 hb5
    go_enter Try.func21, Try.ntmps21
    go_wp2_with (go_at_call 23; first | (with_reducible refine (between_any _ _ _ _ _ H1.out).mono ?_) | (with_reducible refine (between_any _ _ _ _ _ H2.out).mono ?_) | (with_reducible refine (between_any _ _ _ _ _ H3.out).mono ?_) | (with_reducible refine (between_any _ _ _ _ _ H4.out).mono ?_) | (with_reducible refine (between_any _ _ _ _ _ H5.out).mono ?_)
                 rintro e w1 ⟨rfl, rfl⟩)
    go_ret
    exact ⟨by rw [HV.out]; rfl, (Below.refl _ _).alloc (Nat.le_refl _) _⟩
  have hv0 : okI op d n m imm = (if op = 7 ∨ op = 8 then btwB m 0 3 else if op = 11 ∨ op = 12 then btwB imm 0 5 else if op = 13 then btwB imm 3 5 else true) := by
    simp [okI, hb1, hb2, hb3, hb4, hb5]
  have hm := btw_of_yes hb4
  have H1 := Lib.hid hb1
  have H2 := Lib.hid hb2
  have H3 := Lib.hid hb3
  have H4 := Lib.hid hb4
  have H5 := Lib.hid hb5
  by_cases h7 : op = 7 ∨ op = 8
  · rw [if_pos h7] at hv0
    have e3 : btwB m 0 3 = decide (m ≤ 3) := by unfold btwB; simp [hm.1]
    rw [e3] at hv0
    have HV := Lib.hid hv0
    clear hv0 hb1 hb2 hb3 hb4 hb5 e3 hm
    rcases h7 with rfl | rfl
    all_goals
      go_enter Try.func21, Try.ntmps21
      go_wp2_with (go_at_call 23; first | (with_reducible refine (between_any _ _ _ _ _ H1.out).mono ?_) | (with_reducible refine (between_any _ _ _ _ _ H2.out).mono ?_) | (with_reducible refine (between_any _ _ _ _ _ H3.out).mono ?_) | (with_reducible refine (between_any _ _ _ _ _ H4.out).mono ?_) | (with_reducible refine (between_any _ _ _ _ _ H5.out).mono ?_)
                   rintro e w1 ⟨rfl, rfl⟩)
      go_ret
      exact ⟨by rw [HV.out]; rfl, (Below.refl _ _).alloc (Nat.le_refl _) _⟩
  rw [if_neg h7] at hv0
  by_cases h11 : op = 11 ∨ op = 12
  · rw [if_pos h11] at hv0
    have HV := Lib.hid hv0
    clear hv0 hb1 hb2 hb3 hb4 hb5 hm h7
    rcases h11 with rfl | rfl
    all_goals
      go_enter Try.func21, Try.ntmps21
      go_wp2_with (go_at_call 23; first | (with_reducible refine (between_any _ _ _ _ _ H1.out).mono ?_) | (with_reducible refine (between_any _ _ _ _ _ H2.out).mono ?_) | (with_reducible refine (between_any _ _ _ _ _ H3.out).mono ?_) | (with_reducible refine (between_any _ _ _ _ _ H4.out).mono ?_) | (with_reducible refine (between_any _ _ _ _ _ H5.out).mono ?_) | (with_reducible refine (between_any _ _ _ _ _ HV.out.symm).mono ?_)
                   rintro e w1 ⟨rfl, rfl⟩)
      go_ret
      exact ⟨rfl, (Below.refl _ _).alloc (Nat.le_refl _) _⟩
  rw [if_neg h11] at hv0
  by_cases h13 : op = 13
  · rw [if_pos h13] at hv0
    have HV := Lib.hid hv0
    clear hv0 hb1 hb2 hb3 hb4 hb5 hm h7 h11
    subst h13
    go_enter Try.func21, Try.ntmps21
    go_wp2_with (go_at_call 23; first | (with_reducible refine (between_any _ _ _ _ _ H1.out).mono ?_) | (with_reducible refine (between_any _ _ _ _ _ H2.out).mono ?_) | (with_reducible refine (between_any _ _ _ _ _ H3.out).mono ?_) | (with_reducible refine (between_any _ _ _ _ _ H4.out).mono ?_) | (with_reducible refine (between_any _ _ _ _ _ H5.out).mono ?_) | (with_reducible refine (between_any _ _ _ _ _ HV.out.symm).mono ?_)
                 rintro e w1 ⟨rfl, rfl⟩)
    go_ret
    exact ⟨rfl, (Below.refl _ _).alloc (Nat.le_refl _) _⟩
  rw [if_neg h13] at hv0
  have HV := Lib.hid hv0
  have k7 : (op == 7) = false := by rw [beq_eq_false_iff_ne]; omega
  have k8 : (op == 8) = false := by rw [beq_eq_false_iff_ne]; omega
  have k11 : (op == 11) = false := by rw [beq_eq_false_iff_ne]; omega
  have k12 : (op == 12) = false := by rw [beq_eq_false_iff_ne]; omega
  have k13 : (op == 13) = false := by rw [beq_eq_false_iff_ne]; omega
  clear hv0 hb1 hb2 hb3 hb4 hb5 hm h7 h11 h13
  go_enter Try.func21, Try.ntmps21
  go_wp2_with (go_at_call 23; first | (with_reducible refine (between_any _ _ _ _ _ H1.out).mono ?_) | (with_reducible refine (between_any _ _ _ _ _ H2.out).mono ?_) | (with_reducible refine (between_any _ _ _ _ _ H3.out).mono ?_) | (with_reducible refine (between_any _ _ _ _ _ H4.out).mono ?_) | (with_reducible refine (between_any _ _ _ _ _ H5.out).mono ?_)
               rintro e w1 ⟨rfl, rfl⟩)
  go_ret
  exact ⟨by rw [HV.out]; rfl, (Below.refl _ _).alloc (Nat.le_refl _) _⟩

set_option maxHeartbeats 400000 in
theorem check_yes (op d n m imm : Int) (w : World) (h : okI op d n m imm = true) :
    Calls Try.prog 18 #[.agg #[.int .i64 op, .int .i64 d, .int .i64 n, .int .i64 m, .int .i64 imm]] w fun e w' => e = .returned (.int .i64 0) ∧ Below w.heap.size w w' := by
  have H := fun w => mayi_any op d n m imm w
  rw [h] at H
  have HH := Lib.hid H
  clear H h
  go_enter Try.func18, Try.ntmps18
  go_wp2_with (go_at_call 21; refine (HH.out _).mono ?_; rintro e w1 ⟨rfl, hb1⟩)
  go_ret
  exact ⟨rfl, ((Below.refl _ _).alloc (Nat.le_refl _) _).trans (hb1.mono (by simp))⟩
set_option maxHeartbeats 400000 in
theorem check_no (op d n m imm : Int) (w : World) (h : okI op d n m imm = false) :
    Calls Try.prog 18 #[.agg #[.int .i64 op, .int .i64 d, .int .i64 n, .int .i64 m, .int .i64 imm]] w fun e w' => e = .returned (.int .i64 1) ∧ Below w.heap.size w w' := by
  have H := fun w => mayi_any op d n m imm w
  rw [h] at H
  have HH := Lib.hid H
  clear H h
  go_enter Try.func18, Try.ntmps18
  go_wp2_with (go_at_call 21; refine (HH.out _).mono ?_; rintro e w1 ⟨rfl, hb1⟩)
  go_ret
  exact ⟨rfl, ((Below.refl _ _).alloc (Nat.le_refl _) _).trans (hb1.mono (by simp))⟩
end Go.Proofs.Ytkdoedfdpijfkaa
