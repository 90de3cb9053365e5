/- The contract of the reference's look at an instruction. -/
import Derived.Test.YtkdoedfdpijfkaaInsn
namespace Go.Proofs.Ytkdoedfdpijfkaa
open Go.RowKit

theorem rnum_yes (x hi : Int) (w : World) (h : btwB x 0 hi = true) :
    Calls Try.prog 22 #[.int .i64 x, .int .i64 hi] w fun e w' => e = .returned (.bool true) ∧ w = w' := by
  obtain ⟨h1, h2⟩ := btw_of_yes h
  clear h
  go_enter Try.func22, Try.ntmps22
  go_wp2
  go_ret
  exact ⟨rfl, rfl⟩
theorem rnum_no (x hi : Int) (w : World) (h : btwB x 0 hi = false) :
    Calls Try.prog 22 #[.int .i64 x, .int .i64 hi] w fun e w' => e = .returned (.bool false) ∧ w = w' := by
  rcases btw_of_no h with h1 | ⟨h1, h2⟩
  all_goals
    clear h
    go_enter Try.func22, Try.ntmps22
    go_wp2
    go_ret
    exact ⟨by first | rfl | (simp; omega), rfl⟩
theorem rnum_any (x hi : Int) (b : Bool) (w : World) (h : btwB x 0 hi = b) :
    Calls Try.prog 22 #[.int .i64 x, .int .i64 hi] w fun e w' => e = .returned (.bool b) ∧ w = w' := by
  cases b
  · exact rnum_no x hi w h
  · exact rnum_yes x hi w h

set_option maxHeartbeats 4000000 in
theorem rinsn_any (op d n m imm : Int) (w : World) :
    Calls Try.prog 19 #[.agg #[.int .i64 op, .int .i64 d, .int .i64 n, .int .i64 m, .int .i64 imm]] w fun e w' => e = .returned (.bool (okI op d n m imm)) ∧ Below w.heap.size w w' := by
  rcases hb1 : btwB op 1 16 with _ | _
  · have hv : okI op d n m imm = false := by simp [okI, hb1]
    have HV := Lib.hid hv
    rcases btw_of_no hb1 with h1 | ⟨h1, h2⟩
    all_goals
      clear hv hb1
      go_enter Try.func19, Try.ntmps19
      go_wp2_with fail
      go_ret
      exact ⟨by rw [HV.out]; rfl, (Below.refl _ _).alloc (Nat.le_refl _) _⟩
  obtain ⟨o1, o2⟩ := btw_of_yes hb1
  rcases hb2 : btwB d 0 7 with _ | _
  · have hv : okI op d n m imm = false := by simp [okI, hb2]
    have HV := Lib.hid hv
    have H2 := Lib.hid hb2
    clear hv hb1 hb2
    go_enter Try.func19, Try.ntmps19
    go_wp2_with (go_at_call 22; first | (with_reducible refine (rnum_any _ _ _ _ H2.out).mono ?_)
                 rintro e w1 ⟨rfl, rfl⟩)
    go_ret
    exact ⟨by rw [HV.out]; rfl, (Below.refl _ _).alloc (Nat.le_refl _) _⟩
  rcases hb3 : btwB n 0 7 with _ | _
  · have hv : okI op d n m imm = false := by simp [okI, hb3]
    have HV := Lib.hid hv
    have H2 := Lib.hid hb2
    have H3 := Lib.hid hb3
    clear hv hb1 hb2 hb3
    go_enter Try.func19, Try.ntmps19
    go_wp2_with (go_at_call 22; first | (with_reducible refine (rnum_any _ _ _ _ H2.out).mono ?_) | (with_reducible refine (rnum_any _ _ _ _ H3.out).mono ?_)
                 rintro e w1 ⟨rfl, rfl⟩)
    go_ret
    exact ⟨by rw [HV.out]; rfl, (Below.refl _ _).alloc (Nat.le_refl _) _⟩
  rcases hb4 : btwB m 0 7 with _ | _
  · have hv : okI op d n m imm = false := by simp [okI, hb4]
    have HV := Lib.hid hv
    have H2 := Lib.hid hb2
    have H3 := Lib.hid hb3
    have H4 := Lib.hid hb4
    clear hv hb1 hb2 hb3 hb4
    go_enter Try.func19, Try.ntmps19
    go_wp2_with (go_at_call 22; first | (with_reducible refine (rnum_any _ _ _ _ H2.out).mono ?_) | (with_reducible refine (rnum_any _ _ _ _ H3.out).mono ?_) | (with_reducible refine (rnum_any _ _ _ _ H4.out).mono ?_)
                 rintro e w1 ⟨rfl, rfl⟩)
    go_ret
    exact ⟨by rw [HV.out]; rfl, (Below.refl _ _).alloc (Nat.le_refl _) _⟩
  have H2 := Lib.hid hb2
  have H3 := Lib.hid hb3
  have H4 := Lib.hid hb4
  rcases hb5 : btwB imm (-2048) 2047 with _ | _
  · have hv : okI op d n m imm = false := by simp [okI, hb5]
    have HV := Lib.hid hv
    rcases btw_of_no hb5 with h1 | ⟨h1, h2⟩
    all_goals
      clear hv hb1 hb2 hb3 hb4 hb5
      go_enter Try.func19, Try.ntmps19
      go_wp2_with (go_at_call 22; first | (with_reducible refine (rnum_any _ _ _ _ H2.out).mono ?_) | (with_reducible refine (rnum_any _ _ _ _ H3.out).mono ?_) | (with_reducible refine (rnum_any _ _ _ _ H4.out).mono ?_)
                   rintro e w1 ⟨rfl, rfl⟩)
      go_ret
      exact ⟨by rw [HV.out]; rfl, (Below.refl _ _).alloc (Nat.le_refl _) _⟩
  have hv0 : okI op d n m imm = (if op = 7 ∨ op = 8 then btwB m 0 3 else if op = 11 ∨ op = 12 then btwB imm 0 5 else if op = 13 then btwB imm 3 5 else true) := by
    simp [okI, hb1, hb2, hb3, hb4, hb5]
  have hm := btw_of_yes hb4
  obtain ⟨q1, q2⟩ := btw_of_yes hb5
  by_cases h7 : op = 7 ∨ op = 8
  · rw [if_pos h7] at hv0
    have e3 : btwB m 0 3 = decide (m ≤ 3) := by unfold btwB; simp [hm.1]
    rw [e3] at hv0
    have HV := Lib.hid hv0
    clear hv0 hb1 hb2 hb3 hb4 hb5 e3 hm o1 o2
    rcases h7 with rfl | rfl
    all_goals
      go_enter Try.func19, Try.ntmps19
      go_wp2_with (go_at_call 22; first | (with_reducible refine (rnum_any _ _ _ _ H2.out).mono ?_) | (with_reducible refine (rnum_any _ _ _ _ H3.out).mono ?_) | (with_reducible refine (rnum_any _ _ _ _ H4.out).mono ?_)
                   rintro e w1 ⟨rfl, rfl⟩)
      go_ret
      exact ⟨by rw [HV.out]; rfl, (Below.refl _ _).alloc (Nat.le_refl _) _⟩
  rw [if_neg h7] at hv0
  by_cases h11 : op = 11 ∨ op = 12
  · rw [if_pos h11] at hv0
    have HV := Lib.hid hv0
    clear hv0 hb1 hb2 hb3 hb4 hb5 hm h7 o1 o2
    rcases h11 with rfl | rfl
    all_goals
      go_enter Try.func19, Try.ntmps19
      go_wp2_with (go_at_call 22; first | (with_reducible refine (rnum_any _ _ _ _ H2.out).mono ?_) | (with_reducible refine (rnum_any _ _ _ _ H3.out).mono ?_) | (with_reducible refine (rnum_any _ _ _ _ H4.out).mono ?_) | (with_reducible refine (rnum_any _ _ _ _ HV.out.symm).mono ?_)
                   rintro e w1 ⟨rfl, rfl⟩)
      go_ret
      exact ⟨rfl, (Below.refl _ _).alloc (Nat.le_refl _) _⟩
  rw [if_neg h11] at hv0
  by_cases h13 : op = 13
  · rw [if_pos h13] at hv0
    clear hb1 hb2 hb3 hb4 hb5 hm h7 h11 o1 o2
    subst h13
    have h3 : (imm < 3 ∧ okI 13 d n m imm = false) ∨ (3 ≤ imm ∧ 5 < imm ∧ okI 13 d n m imm = false) ∨ (3 ≤ imm ∧ imm ≤ 5 ∧ okI 13 d n m imm = true) := by
      rw [hv0]
      rcases hb6 : btwB imm 3 5 with _ | _
      · rcases btw_of_no hb6 with h1 | ⟨h1, h2⟩
        · exact .inl ⟨h1, rfl⟩
        · exact .inr (.inl ⟨h1, h2, rfl⟩)
      · obtain ⟨h1, h2⟩ := btw_of_yes hb6
        exact .inr (.inr ⟨h1, h2, rfl⟩)
    clear hv0
    rcases h3 with ⟨h1, hv⟩ | ⟨h1, h2, hv⟩ | ⟨h1, h2, hv⟩
    all_goals
      have HV := Lib.hid hv
      clear hv
      go_enter Try.func19, Try.ntmps19
      go_wp2_with (go_at_call 22; first | (with_reducible refine (rnum_any _ _ _ _ H2.out).mono ?_) | (with_reducible refine (rnum_any _ _ _ _ H3.out).mono ?_) | (with_reducible refine (rnum_any _ _ _ _ H4.out).mono ?_)
                   rintro e w1 ⟨rfl, rfl⟩)
      go_ret
      exact ⟨by rw [HV.out]; first | rfl | (simp; omega), (Below.refl _ _).alloc (Nat.le_refl _) _⟩
  rw [if_neg h13] at hv0
  have HV := Lib.hid hv0
  have k7 : (op == 7) = false := by rw [beq_eq_false_iff_ne]; omega
  have k8 : (op == 8) = false := by rw [beq_eq_false_iff_ne]; omega
  have k11 : (op == 11) = false := by rw [beq_eq_false_iff_ne]; omega
  have k12 : (op == 12) = false := by rw [beq_eq_false_iff_ne]; omega
  have k13 : (op == 13) = false := by rw [beq_eq_false_iff_ne]; omega
  clear hv0 hb1 hb2 hb3 hb4 hb5 hm h7 h11 h13
  go_enter Try.func19, Try.ntmps19
  go_wp2_with (go_at_call 22; first | (with_reducible refine (rnum_any _ _ _ _ H2.out).mono ?_) | (with_reducible refine (rnum_any _ _ _ _ H3.out).mono ?_) | (with_reducible refine (rnum_any _ _ _ _ H4.out).mono ?_)
               rintro e w1 ⟨rfl, rfl⟩)
  go_ret
  exact ⟨by rw [HV.out]; rfl, (Below.refl _ _).alloc (Nat.le_refl _) _⟩
end Go.Proofs.Ytkdoedfdpijfkaa
