/- The walk of op: instructions of one Op, there and back; and of the statements over it. -/
import Derived.Test.YtmbgcfgmoepgbaaL11a
namespace Go.Proofs.Ytmbgcfgmoepgbaa
open Go.RowKit
attribute [local go_sem] uv_and uv_or uv_xor uv_andNot uv_shr uv_shl uv_add uv_sub uv_neg uv_beq uv_beq0 uv_beq1 uv_bne0 u64_signed uv_not sv_i64 sv_shr uv_sv ones_shr uv_and4095 u3_and u3_or u3_and7 u3_and4095 u3_shr27 u3_shr24 u3_shr21 u3_shr18 u3_shl27 u3_shl24 u3_shl21 u3_shl18 u3_uv u3_i64 u3_w64 u3_u64 sv_w64 u3_beq u3_bne

set_option maxRecDepth 100000 in
set_option maxHeartbeats 16000000 in
theorem op_walk (K : Int) (pa : Option Addr) (b off len cap : Nat) (w : World) (hp : 0 < len → pa = some ⟨b, off, none⟩)
    (hc : ∀ i, i < len → ∃ op d n m imm x, AskAt w b (off + i * 6) op d n m imm x) :
    Calls Try.prog 11 #[.slice pa len cap, .int .i64 K] w fun e w' => e = .returned (.bool true) ∧ Below w.heap.size w w' := by
  have HP := Lib.hid hp
  have HC := Lib.hid hc
  clear hp hc
  go_enter Try.func11, Try.ntmps11
  go_wp2
  go_loopw [5] (fun i wr => ∃ k : Nat, k ≤ len ∧ k ≤ 20 ∧ i = .int .i64 k ∧ Below w.heap.size w wr ∧ w.heap.size ≤ wr.heap.size) (fun i _ => 20 - (intOf i).toNat)
  case atStart => exact ⟨0, Nat.zero_le _, Nat.zero_le _, rfl, Below.refl _ _, Nat.le_refl _⟩
  case round =>
    obtain ⟨k, hk, hk20, rfl, hB, hz⟩ := hrel
    have hp := HP.out
    have hc := HC.out
    clear HP HC
    by_cases hlt : k < len
    · by_cases hlt20 : k < 20
      · obtain ⟨op, d, n, m, imm, x, hA⟩ := hc k hlt
        obtain rfl := hp (by omega)
        have A0 := ask_old hA hB
        have r1 := u3_ofInt K
        have r2 : IntKind.u32.wrap (u3 (BitVec.ofInt 32 K) * (134217728 : Int)) = u3 (BitVec.ofInt 32 K <<< 27) := u3_shl _ 27
        have r3 : bits .and .u32 (u3 x) (134217727 : Int) = u3 (x &&& 134217727#32) := u3_and x 134217727#32
        clear hc hp hA
        rcases hX : okI K d n m imm with _ | _ <;> rcases hW : okOf (x &&& 134217727#32 ||| BitVec.ofInt 32 K <<< 27) with _ | _
        · have HX := Lib.hid hX
          have HW := Lib.hid hW
          clear hX hW
          obtain ⟨c0, c1, c2, c3, c4, c5⟩ := id A0
          go_wp2_with fail
          refine (word_no _ _ _ _ _ _ HX.out).mono ?_
          rintro e w1 ⟨rfl, hb1⟩
          clear c0 c1 c2 c3 c4 c5
          have A1 := ask_new A0 hb1
          have s1 := below_new hB hz hb1
          have F1 := five_new hb1
          clear A0 hb1
          obtain ⟨x0, x1, x2, x3, x4⟩ := id F1
          go_wp2_with fail
          refine (rinsn_eq _ _ _ _ _ _ _ HX.out).mono ?_
          rintro e w2 ⟨rfl, hb2⟩
          clear x0 x1 x2 x3 x4
          have A2 := ask_later A1 hb2
          have s2 := below_next s1.1 s1.2 hb2
          have F2 := five_later F1 hb2
          clear A1 hb2 s1 F1
          obtain ⟨c0, c1, c2, c3, c4, c5⟩ := id A2
          go_wp2_with fail
          refine (of_no _ _ HW.out).mono ?_
          rintro e w4 ⟨rfl, hb4⟩
          clear c0 c1 c2 c3 c4 c5
          have A4 := ask_later A2 hb4
          have s4 := below_next s2.1 s2.2 hb4
          have F4 := five_later F2 hb4
          clear A2 hb4 s2 F2
          obtain ⟨c0, c1, c2, c3, c4, c5⟩ := id A4
          have bl := World.block_lt_of_cell? _ _ c0
          go_wp2_with fail
          refine (rof_no _ _ HW.out).mono ?_
          rintro e w5 ⟨rfl, hb5⟩
          clear c0 c1 c2 c3 c4 c5 bl
          have s5 := below_new s4.1 s4.2 hb5
          have G5 := five_new hb5
          have F5 := five_over F4 hb5
          clear A4 hb5 s4 F4
          obtain ⟨x0, x1, x2, x3, x4⟩ := id F5
          have bl := World.block_lt_of_cell? _ _ x0
          go_wp2_with fail
          refine (check_no _ _ _ _ _ _ HX.out).mono ?_
          rintro e w6 ⟨rfl, hb6⟩
          clear x0 x1 x2 x3 x4 bl
          have s6 := below_new s5.1 s5.2 hb6
          have F6 := five_over G5 hb6
          have G6 := five_new hb6
          clear hb6 s5 F5 G5
          obtain ⟨f0, f1, f2, f3, f4⟩ := F6
          obtain ⟨g0, g1, g2, g3, g4⟩ := G6
          have gq := guard26
          have nq := neq_same
          go_wp2_with (go_at_call 17; refine (num_any _ _).mono ?_; rintro e w7 ⟨rfl, rfl⟩)
          go_roundw
          case rel => exact ⟨k + 1, by omega, by omega, by go_num, s6.1, s6.2⟩
          case measure => simp [intOf]; omega
        · have HX := Lib.hid hX
          have HW := Lib.hid hW
          clear hX hW
          obtain ⟨c0, c1, c2, c3, c4, c5⟩ := id A0
          go_wp2_with fail
          refine (word_no _ _ _ _ _ _ HX.out).mono ?_
          rintro e w1 ⟨rfl, hb1⟩
          clear c0 c1 c2 c3 c4 c5
          have A1 := ask_new A0 hb1
          have s1 := below_new hB hz hb1
          have F1 := five_new hb1
          clear A0 hb1
          obtain ⟨x0, x1, x2, x3, x4⟩ := id F1
          go_wp2_with fail
          refine (rinsn_eq _ _ _ _ _ _ _ HX.out).mono ?_
          rintro e w2 ⟨rfl, hb2⟩
          clear x0 x1 x2 x3 x4
          have A2 := ask_later A1 hb2
          have s2 := below_next s1.1 s1.2 hb2
          have F2 := five_later F1 hb2
          clear A1 hb2 s1 F1
          obtain ⟨c0, c1, c2, c3, c4, c5⟩ := id A2
          go_wp2_with fail
          refine (of_yes _ _ HW.out).mono ?_
          rintro e w4 ⟨rfl, hb4⟩
          clear c0 c1 c2 c3 c4 c5
          have A4 := ask_later A2 hb4
          have s4 := below_next s2.1 s2.2 hb4
          have F4 := five_later F2 hb4
          clear A2 hb4 s2 F2
          obtain ⟨c0, c1, c2, c3, c4, c5⟩ := id A4
          have bl := World.block_lt_of_cell? _ _ c0
          go_wp2_with fail
          refine (rof_yes _ _ HW.out).mono ?_
          rintro e w5 ⟨rfl, hb5⟩
          clear c0 c1 c2 c3 c4 c5 bl
          have s5 := below_new s4.1 s4.2 hb5
          have G5 := five_new hb5
          have F5 := five_over F4 hb5
          clear A4 hb5 s4 F4
          obtain ⟨x0, x1, x2, x3, x4⟩ := id F5
          have bl := World.block_lt_of_cell? _ _ x0
          go_wp2_with fail
          refine (check_no _ _ _ _ _ _ HX.out).mono ?_
          rintro e w6 ⟨rfl, hb6⟩
          clear x0 x1 x2 x3 x4 bl
          have s6 := below_new s5.1 s5.2 hb6
          have F6 := five_over G5 hb6
          have G6 := five_new hb6
          clear hb6 s5 F5 G5
          obtain ⟨f0, f1, f2, f3, f4⟩ := F6
          obtain ⟨g0, g1, g2, g3, g4⟩ := G6
          have gq := guard26
          have nq := neq_same
          go_wp2_with (go_at_call 17; refine (num_any _ _).mono ?_; rintro e w7 ⟨rfl, rfl⟩)
          go_roundw
          case rel => exact ⟨k + 1, by omega, by omega, by go_num, s6.1, s6.2⟩
          case measure => simp [intOf]; omega
        · have HX := Lib.hid hX
          have HW := Lib.hid hW
          clear hX hW
          obtain ⟨c0, c1, c2, c3, c4, c5⟩ := id A0
          go_wp2_with fail
          refine (word_yes _ _ _ _ _ _ HX.out).mono ?_
          rintro e w1 ⟨rfl, hb1⟩
          clear c0 c1 c2 c3 c4 c5
          have A1 := ask_new A0 hb1
          have s1 := below_new hB hz hb1
          have F1 := five_new hb1
          clear A0 hb1
          obtain ⟨x0, x1, x2, x3, x4⟩ := id F1
          go_wp2_with fail
          refine (rinsn_eq _ _ _ _ _ _ _ HX.out).mono ?_
          rintro e w2 ⟨rfl, hb2⟩
          clear x0 x1 x2 x3 x4
          have A2 := ask_later A1 hb2
          have s2 := below_next s1.1 s1.2 hb2
          have F2 := five_later F1 hb2
          clear A1 hb2 s1 F1
          obtain ⟨x0, x1, x2, x3, x4⟩ := id F2
          go_wp2_with fail
          refine (rword _ _ _ _ _ _ HX.out).mono ?_
          rintro e w3 ⟨rfl, hb3⟩
          clear x0 x1 x2 x3 x4
          have A3 := ask_later A2 hb3
          have s3 := below_next s2.1 s2.2 hb3
          have F3 := five_later F2 hb3
          clear A2 hb3 s2 F2
          obtain ⟨c0, c1, c2, c3, c4, c5⟩ := id A3
          go_wp2_with fail
          refine (of_no _ _ HW.out).mono ?_
          rintro e w4 ⟨rfl, hb4⟩
          clear c0 c1 c2 c3 c4 c5
          have A4 := ask_later A3 hb4
          have s4 := below_next s3.1 s3.2 hb4
          have F4 := five_later F3 hb4
          clear A3 hb4 s3 F3
          obtain ⟨c0, c1, c2, c3, c4, c5⟩ := id A4
          have bl := World.block_lt_of_cell? _ _ c0
          go_wp2_with fail
          refine (rof_no _ _ HW.out).mono ?_
          rintro e w5 ⟨rfl, hb5⟩
          clear c0 c1 c2 c3 c4 c5 bl
          have s5 := below_new s4.1 s4.2 hb5
          have G5 := five_new hb5
          have F5 := five_over F4 hb5
          clear A4 hb5 s4 F4
          obtain ⟨x0, x1, x2, x3, x4⟩ := id F5
          have bl := World.block_lt_of_cell? _ _ x0
          go_wp2_with fail
          refine (check_yes _ _ _ _ _ _ HX.out).mono ?_
          rintro e w6 ⟨rfl, hb6⟩
          clear x0 x1 x2 x3 x4 bl
          have s6 := below_new s5.1 s5.2 hb6
          have F6 := five_over G5 hb6
          have G6 := five_new hb6
          clear hb6 s5 F5 G5
          obtain ⟨f0, f1, f2, f3, f4⟩ := F6
          obtain ⟨g0, g1, g2, g3, g4⟩ := G6
          have gq := guard26
          have nq := neq_same
          go_wp2_with (go_at_call 17; refine (num_any _ _).mono ?_; rintro e w7 ⟨rfl, rfl⟩)
          go_roundw
          case rel => exact ⟨k + 1, by omega, by omega, by go_num, s6.1, s6.2⟩
          case measure => simp [intOf]; omega
        · have HX := Lib.hid hX
          have HW := Lib.hid hW
          clear hX hW
          obtain ⟨c0, c1, c2, c3, c4, c5⟩ := id A0
          go_wp2_with fail
          refine (word_yes _ _ _ _ _ _ HX.out).mono ?_
          rintro e w1 ⟨rfl, hb1⟩
          clear c0 c1 c2 c3 c4 c5
          have A1 := ask_new A0 hb1
          have s1 := below_new hB hz hb1
          have F1 := five_new hb1
          clear A0 hb1
          obtain ⟨x0, x1, x2, x3, x4⟩ := id F1
          go_wp2_with fail
          refine (rinsn_eq _ _ _ _ _ _ _ HX.out).mono ?_
          rintro e w2 ⟨rfl, hb2⟩
          clear x0 x1 x2 x3 x4
          have A2 := ask_later A1 hb2
          have s2 := below_next s1.1 s1.2 hb2
          have F2 := five_later F1 hb2
          clear A1 hb2 s1 F1
          obtain ⟨x0, x1, x2, x3, x4⟩ := id F2
          go_wp2_with fail
          refine (rword _ _ _ _ _ _ HX.out).mono ?_
          rintro e w3 ⟨rfl, hb3⟩
          clear x0 x1 x2 x3 x4
          have A3 := ask_later A2 hb3
          have s3 := below_next s2.1 s2.2 hb3
          have F3 := five_later F2 hb3
          clear A2 hb3 s2 F2
          obtain ⟨c0, c1, c2, c3, c4, c5⟩ := id A3
          go_wp2_with fail
          refine (of_yes _ _ HW.out).mono ?_
          rintro e w4 ⟨rfl, hb4⟩
          clear c0 c1 c2 c3 c4 c5
          have A4 := ask_later A3 hb4
          have s4 := below_next s3.1 s3.2 hb4
          have F4 := five_later F3 hb4
          clear A3 hb4 s3 F3
          obtain ⟨c0, c1, c2, c3, c4, c5⟩ := id A4
          have bl := World.block_lt_of_cell? _ _ c0
          go_wp2_with fail
          refine (rof_yes _ _ HW.out).mono ?_
          rintro e w5 ⟨rfl, hb5⟩
          clear c0 c1 c2 c3 c4 c5 bl
          have s5 := below_new s4.1 s4.2 hb5
          have G5 := five_new hb5
          have F5 := five_over F4 hb5
          clear A4 hb5 s4 F4
          obtain ⟨x0, x1, x2, x3, x4⟩ := id F5
          have bl := World.block_lt_of_cell? _ _ x0
          go_wp2_with fail
          refine (check_yes _ _ _ _ _ _ HX.out).mono ?_
          rintro e w6 ⟨rfl, hb6⟩
          clear x0 x1 x2 x3 x4 bl
          have s6 := below_new s5.1 s5.2 hb6
          have F6 := five_over G5 hb6
          have G6 := five_new hb6
          clear hb6 s5 F5 G5
          obtain ⟨f0, f1, f2, f3, f4⟩ := F6
          obtain ⟨g0, g1, g2, g3, g4⟩ := G6
          have gq := guard26
          have nq := neq_same
          go_wp2_with (go_at_call 17; refine (num_any _ _).mono ?_; rintro e w7 ⟨rfl, rfl⟩)
          go_roundw
          case rel => exact ⟨k + 1, by omega, by omega, by go_num, s6.1, s6.2⟩
          case measure => simp [intOf]; omega
      · clear hc hp
        go_wp2_with (go_at_call 19; refine (wakes_1 _).mono ?_; rintro e w1 ⟨rfl, hb1⟩)
        go_ret
        exact ⟨rfl, hB.trans (hb1.mono hz)⟩
    · clear hc hp
      go_wp2_with (go_at_call 19; refine (wakes_1 _).mono ?_; rintro e w1 ⟨rfl, hb1⟩)
      go_ret
      exact ⟨rfl, hB.trans (hb1.mono hz)⟩
theorem op9_walk (pa : Option Addr) (b off len cap : Nat) (w : World) (hp : 0 < len → pa = some ⟨b, off, none⟩)
    (hc : ∀ i, i < len → ∃ op d n m imm x, AskAt w b (off + i * 6) op d n m imm x) :
    Calls Try.prog 3 #[.slice pa len cap] w fun e w' => e = .returned (.bool true) ∧ Below w.heap.size w w' := by
  have H := Lib.hid (op_walk 9 pa b off len cap w hp hc)
  clear hp hc
  go_enter Try.func3, Try.ntmps3
  go_wp2_with (go_at_call 11; refine H.out.mono ?_; rintro e w1 ⟨rfl, hb1⟩)
  go_ret
  exact ⟨rfl, hb1⟩
theorem op10_walk (pa : Option Addr) (b off len cap : Nat) (w : World) (hp : 0 < len → pa = some ⟨b, off, none⟩)
    (hc : ∀ i, i < len → ∃ op d n m imm x, AskAt w b (off + i * 6) op d n m imm x) :
    Calls Try.prog 4 #[.slice pa len cap] w fun e w' => e = .returned (.bool true) ∧ Below w.heap.size w w' := by
  have H := Lib.hid (op_walk 10 pa b off len cap w hp hc)
  clear hp hc
  go_enter Try.func4, Try.ntmps4
  go_wp2_with (go_at_call 11; refine H.out.mono ?_; rintro e w1 ⟨rfl, hb1⟩)
  go_ret
  exact ⟨rfl, hb1⟩
theorem op11_walk (pa : Option Addr) (b off len cap : Nat) (w : World) (hp : 0 < len → pa = some ⟨b, off, none⟩)
    (hc : ∀ i, i < len → ∃ op d n m imm x, AskAt w b (off + i * 6) op d n m imm x) :
    Calls Try.prog 5 #[.slice pa len cap] w fun e w' => e = .returned (.bool true) ∧ Below w.heap.size w w' := by
  have H := Lib.hid (op_walk 11 pa b off len cap w hp hc)
  clear hp hc
  go_enter Try.func5, Try.ntmps5
  go_wp2_with (go_at_call 11; refine H.out.mono ?_; rintro e w1 ⟨rfl, hb1⟩)
  go_ret
  exact ⟨rfl, hb1⟩
theorem op12_walk (pa : Option Addr) (b off len cap : Nat) (w : World) (hp : 0 < len → pa = some ⟨b, off, none⟩)
    (hc : ∀ i, i < len → ∃ op d n m imm x, AskAt w b (off + i * 6) op d n m imm x) :
    Calls Try.prog 6 #[.slice pa len cap] w fun e w' => e = .returned (.bool true) ∧ Below w.heap.size w w' := by
  have H := Lib.hid (op_walk 12 pa b off len cap w hp hc)
  clear hp hc
  go_enter Try.func6, Try.ntmps6
  go_wp2_with (go_at_call 11; refine H.out.mono ?_; rintro e w1 ⟨rfl, hb1⟩)
  go_ret
  exact ⟨rfl, hb1⟩
theorem op13_walk (pa : Option Addr) (b off len cap : Nat) (w : World) (hp : 0 < len → pa = some ⟨b, off, none⟩)
    (hc : ∀ i, i < len → ∃ op d n m imm x, AskAt w b (off + i * 6) op d n m imm x) :
    Calls Try.prog 7 #[.slice pa len cap] w fun e w' => e = .returned (.bool true) ∧ Below w.heap.size w w' := by
  have H := Lib.hid (op_walk 13 pa b off len cap w hp hc)
  clear hp hc
  go_enter Try.func7, Try.ntmps7
  go_wp2_with (go_at_call 11; refine H.out.mono ?_; rintro e w1 ⟨rfl, hb1⟩)
  go_ret
  exact ⟨rfl, hb1⟩
theorem op14_walk (pa : Option Addr) (b off len cap : Nat) (w : World) (hp : 0 < len → pa = some ⟨b, off, none⟩)
    (hc : ∀ i, i < len → ∃ op d n m imm x, AskAt w b (off + i * 6) op d n m imm x) :
    Calls Try.prog 8 #[.slice pa len cap] w fun e w' => e = .returned (.bool true) ∧ Below w.heap.size w w' := by
  have H := Lib.hid (op_walk 14 pa b off len cap w hp hc)
  clear hp hc
  go_enter Try.func8, Try.ntmps8
  go_wp2_with (go_at_call 11; refine H.out.mono ?_; rintro e w1 ⟨rfl, hb1⟩)
  go_ret
  exact ⟨rfl, hb1⟩
theorem op15_walk (pa : Option Addr) (b off len cap : Nat) (w : World) (hp : 0 < len → pa = some ⟨b, off, none⟩)
    (hc : ∀ i, i < len → ∃ op d n m imm x, AskAt w b (off + i * 6) op d n m imm x) :
    Calls Try.prog 9 #[.slice pa len cap] w fun e w' => e = .returned (.bool true) ∧ Below w.heap.size w w' := by
  have H := Lib.hid (op_walk 15 pa b off len cap w hp hc)
  clear hp hc
  go_enter Try.func9, Try.ntmps9
  go_wp2_with (go_at_call 11; refine H.out.mono ?_; rintro e w1 ⟨rfl, hb1⟩)
  go_ret
  exact ⟨rfl, hb1⟩
theorem op16_walk (pa : Option Addr) (b off len cap : Nat) (w : World) (hp : 0 < len → pa = some ⟨b, off, none⟩)
    (hc : ∀ i, i < len → ∃ op d n m imm x, AskAt w b (off + i * 6) op d n m imm x) :
    Calls Try.prog 10 #[.slice pa len cap] w fun e w' => e = .returned (.bool true) ∧ Below w.heap.size w w' := by
  have H := Lib.hid (op_walk 16 pa b off len cap w hp hc)
  clear hp hc
  go_enter Try.func10, Try.ntmps10
  go_wp2_with (go_at_call 11; refine H.out.mono ?_; rintro e w1 ⟨rfl, hb1⟩)
  go_ret
  exact ⟨rfl, hb1⟩
end Go.Proofs.Ytmbgcfgmoepgbaa
