/- SynWords: the walk. -/
import Derived.Test.YtfialajiaphciaaL8a
namespace Go.Proofs.Ytfialajiaphciaa.law8
open Go.RowKit
attribute [local go_sem] uv_and uv_or uv_xor uv_andNot uv_shr uv_shl uv_add uv_sub uv_neg uv_beq uv_beq0 uv_beq1 uv_bne uv_bne0 u64_signed uv_not sv_i64 sv_shr uv_sv ones_shr sv_w64 uv_and1

set_option maxRecDepth 100000 in
set_option maxHeartbeats 16000000 in
theorem swords_walk (pa : Option Addr) (b off len cap : Nat) (w : World) (hp : 0 < len → pa = some ⟨b, off, none⟩)
    (hc : ∀ i, i < len → ∃ k s l wk p x, AskAt w b (off + i * 6) k s l wk p x) :
    Calls Try.prog 5 #[.slice pa len cap] w fun e w' => e = .returned (.bool true) ∧ Below w.heap.size w w' := by
  have HP := Lib.hid hp
  have HC := Lib.hid hc
  clear hp hc
  go_enter Try.func5, Try.ntmps5
  go_wp2
  go_loopw [3] (fun i wr => ∃ k : Nat, k ≤ len ∧ k ≤ 20 ∧ i = .int .i64 k ∧ Below w.heap.size w wr ∧ w.heap.size ≤ wr.heap.size) (fun i _ => 20 - (intOf i).toNat)
  case atStart => exact ⟨0, Nat.zero_le _, Nat.zero_le _, rfl, Below.refl _ _, Nat.le_refl _⟩
  case round =>
    obtain ⟨q, hq, hq15, rfl, hB, hz⟩ := hrel
    have hp := HP.out
    have hc := HC.out
    clear HP HC
    by_cases hlt : q < len
    · by_cases hlt15 : q < 20
      · obtain ⟨k, s, l, wk, p, x, hA⟩ := hc q hlt
        obtain rfl := hp (by omega)
        have A0 := ask_later hA hB
        have k0 : (0 : Int) ≤ (q : Int) := Int.natCast_nonneg _
        have k1 : (q : Int) < (len : Int) := by omega
        clear hc hp hA
        rcases hX : okS k s l p with _ | _ <;> rcases hW : okSof x with _ | _
        · have HX := Lib.hid hX
          have HW := Lib.hid hW
          clear hX hW
          obtain ⟨c0, c1, c2, c3, c4, c5⟩ := id A0
          go_wp2_with fail
          refine (sword _ _ _ _ _ _ _ HX.out).mono ?_
          rintro e w1 ⟨rfl, hb1⟩
          clear c0 c1 c2 c3 c4 c5
          have A1 := ask_later A0 hb1
          have s1 := below_next hB hz hb1
          clear A0 hb1
          obtain ⟨c0, c1, c2, c3, c4, c5⟩ := id A1
          go_wp2_with fail
          refine (rfault _ _ _ _ _ _ _ HX.out).mono ?_
          rintro e w2 ⟨rfl, hb2⟩
          clear c0 c1 c2 c3 c4 c5
          have A2 := ask_later A1 hb2
          have s2 := below_next s1.1 s1.2 hb2
          clear A1 hb2 s1
          obtain ⟨c0, c1, c2, c3, c4, c5⟩ := id A2
          go_wp2_with fail
          refine (sof _ _ _ HW.out).mono ?_
          rintro e w4 ⟨rfl, hb4⟩
          clear c0 c1 c2 c3 c4 c5
          have A4 := ask_later A2 hb4
          have s4 := below_next s2.1 s2.2 hb4
          clear A2 hb4 s2
          obtain ⟨c0, c1, c2, c3, c4, c5⟩ := id A4
          have bl := World.block_lt_of_cell? _ _ c0
          go_wp2_with fail
          refine (rsynof _ _ _ HW.out).mono ?_
          rintro e w5 ⟨rfl, hb5⟩
          clear c0 c1 c2 c3 c4 c5 bl
          have s5 := below_new s4.1 s4.2 hb5
          have B5 := (Blk.new w4 _ _).next hb5
          clear A4 hb5 s4
          have bl := B5.lt
          have f0 := B5.cell 0
          have f1 := B5.cell 1
          have f2 := B5.cell 2
          have f3 := B5.cell 3
          have f4 := B5.cell 4
          have gq := guardFault
          have ns := neq_same
          clear B5
          go_wp2_with (go_at_call 21; refine (num_any _ _).mono ?_; rintro e w7 ⟨rfl, rfl⟩)
          go_roundw
          case rel => exact ⟨q + 1, by omega, by omega, by go_num, s5.1.alloc s5.2 _, by have := s5.2; simp; omega⟩
          case measure => simp [intOf]; omega
        · have HX := Lib.hid hX
          have HW := Lib.hid hW
          clear hX hW
          obtain ⟨c0, c1, c2, c3, c4, c5⟩ := id A0
          go_wp2_with fail
          refine (sword _ _ _ _ _ _ _ HX.out).mono ?_
          rintro e w1 ⟨rfl, hb1⟩
          clear c0 c1 c2 c3 c4 c5
          have A1 := ask_later A0 hb1
          have s1 := below_next hB hz hb1
          clear A0 hb1
          obtain ⟨c0, c1, c2, c3, c4, c5⟩ := id A1
          go_wp2_with fail
          refine (rfault _ _ _ _ _ _ _ HX.out).mono ?_
          rintro e w2 ⟨rfl, hb2⟩
          clear c0 c1 c2 c3 c4 c5
          have A2 := ask_later A1 hb2
          have s2 := below_next s1.1 s1.2 hb2
          clear A1 hb2 s1
          obtain ⟨c0, c1, c2, c3, c4, c5⟩ := id A2
          go_wp2_with fail
          refine (sof _ _ _ HW.out).mono ?_
          rintro e w4 ⟨rfl, hb4⟩
          clear c0 c1 c2 c3 c4 c5
          have A4 := ask_later A2 hb4
          have s4 := below_next s2.1 s2.2 hb4
          clear A2 hb4 s2
          obtain ⟨c0, c1, c2, c3, c4, c5⟩ := id A4
          have bl := World.block_lt_of_cell? _ _ c0
          go_wp2_with fail
          refine (rsynof _ _ _ HW.out).mono ?_
          rintro e w5 ⟨rfl, hb5⟩
          clear c0 c1 c2 c3 c4 c5 bl
          have s5 := below_new s4.1 s4.2 hb5
          have B5 := (Blk.new w4 _ _).next hb5
          clear A4 hb5 s4
          have bl := B5.lt
          have f0 := B5.cell 0
          have f1 := B5.cell 1
          have f2 := B5.cell 2
          have f3 := B5.cell 3
          have f4 := B5.cell 4
          have gq := guardFault
          have ns := neq_same
          clear B5
          go_wp2_with (go_at_call 21; refine (num_any _ _).mono ?_; rintro e w7 ⟨rfl, rfl⟩)
          go_roundw
          case rel => exact ⟨q + 1, by omega, by omega, by go_num, s5.1.alloc s5.2 _, by have := s5.2; simp; omega⟩
          case measure => simp [intOf]; omega
        · have HX := Lib.hid hX
          have HW := Lib.hid hW
          clear hX hW
          obtain ⟨c0, c1, c2, c3, c4, c5⟩ := id A0
          go_wp2_with fail
          refine (sword _ _ _ _ _ _ _ HX.out).mono ?_
          rintro e w1 ⟨rfl, hb1⟩
          clear c0 c1 c2 c3 c4 c5
          have A1 := ask_later A0 hb1
          have s1 := below_next hB hz hb1
          clear A0 hb1
          obtain ⟨c0, c1, c2, c3, c4, c5⟩ := id A1
          go_wp2_with fail
          refine (rfault _ _ _ _ _ _ _ HX.out).mono ?_
          rintro e w2 ⟨rfl, hb2⟩
          clear c0 c1 c2 c3 c4 c5
          have A2 := ask_later A1 hb2
          have s2 := below_next s1.1 s1.2 hb2
          clear A1 hb2 s1
          obtain ⟨c0, c1, c2, c3, c4, c5⟩ := id A2
          go_wp2_with fail
          refine (rsyn _ _ _ _ _ _ HX.out).mono ?_
          rintro e w3 ⟨rfl, hb3⟩
          clear c0 c1 c2 c3 c4 c5
          have A2 := ask_later A2 hb3
          have s2 := below_next s2.1 s2.2 hb3
          clear hb3
          obtain ⟨c0, c1, c2, c3, c4, c5⟩ := id A2
          go_wp2_with fail
          refine (sof _ _ _ HW.out).mono ?_
          rintro e w4 ⟨rfl, hb4⟩
          clear c0 c1 c2 c3 c4 c5
          have A4 := ask_later A2 hb4
          have s4 := below_next s2.1 s2.2 hb4
          clear A2 hb4 s2
          obtain ⟨c0, c1, c2, c3, c4, c5⟩ := id A4
          have bl := World.block_lt_of_cell? _ _ c0
          go_wp2_with fail
          refine (rsynof _ _ _ HW.out).mono ?_
          rintro e w5 ⟨rfl, hb5⟩
          clear c0 c1 c2 c3 c4 c5 bl
          have s5 := below_new s4.1 s4.2 hb5
          have B5 := (Blk.new w4 _ _).next hb5
          clear A4 hb5 s4
          have bl := B5.lt
          have f0 := B5.cell 0
          have f1 := B5.cell 1
          have f2 := B5.cell 2
          have f3 := B5.cell 3
          have f4 := B5.cell 4
          have gq := guardFault
          have ns := neq_same
          clear B5
          go_wp2_with (go_at_call 21; refine (num_any _ _).mono ?_; rintro e w7 ⟨rfl, rfl⟩)
          go_roundw
          case rel => exact ⟨q + 1, by omega, by omega, by go_num, s5.1.alloc s5.2 _, by have := s5.2; simp; omega⟩
          case measure => simp [intOf]; omega
        · have HX := Lib.hid hX
          have HW := Lib.hid hW
          clear hX hW
          obtain ⟨c0, c1, c2, c3, c4, c5⟩ := id A0
          go_wp2_with fail
          refine (sword _ _ _ _ _ _ _ HX.out).mono ?_
          rintro e w1 ⟨rfl, hb1⟩
          clear c0 c1 c2 c3 c4 c5
          have A1 := ask_later A0 hb1
          have s1 := below_next hB hz hb1
          clear A0 hb1
          obtain ⟨c0, c1, c2, c3, c4, c5⟩ := id A1
          go_wp2_with fail
          refine (rfault _ _ _ _ _ _ _ HX.out).mono ?_
          rintro e w2 ⟨rfl, hb2⟩
          clear c0 c1 c2 c3 c4 c5
          have A2 := ask_later A1 hb2
          have s2 := below_next s1.1 s1.2 hb2
          clear A1 hb2 s1
          obtain ⟨c0, c1, c2, c3, c4, c5⟩ := id A2
          go_wp2_with fail
          refine (rsyn _ _ _ _ _ _ HX.out).mono ?_
          rintro e w3 ⟨rfl, hb3⟩
          clear c0 c1 c2 c3 c4 c5
          have A2 := ask_later A2 hb3
          have s2 := below_next s2.1 s2.2 hb3
          clear hb3
          obtain ⟨c0, c1, c2, c3, c4, c5⟩ := id A2
          go_wp2_with fail
          refine (sof _ _ _ HW.out).mono ?_
          rintro e w4 ⟨rfl, hb4⟩
          clear c0 c1 c2 c3 c4 c5
          have A4 := ask_later A2 hb4
          have s4 := below_next s2.1 s2.2 hb4
          clear A2 hb4 s2
          obtain ⟨c0, c1, c2, c3, c4, c5⟩ := id A4
          have bl := World.block_lt_of_cell? _ _ c0
          go_wp2_with fail
          refine (rsynof _ _ _ HW.out).mono ?_
          rintro e w5 ⟨rfl, hb5⟩
          clear c0 c1 c2 c3 c4 c5 bl
          have s5 := below_new s4.1 s4.2 hb5
          have B5 := (Blk.new w4 _ _).next hb5
          clear A4 hb5 s4
          have bl := B5.lt
          have f0 := B5.cell 0
          have f1 := B5.cell 1
          have f2 := B5.cell 2
          have f3 := B5.cell 3
          have f4 := B5.cell 4
          have gq := guardFault
          have ns := neq_same
          clear B5
          go_wp2_with (go_at_call 21; refine (num_any _ _).mono ?_; rintro e w7 ⟨rfl, rfl⟩)
          go_roundw
          case rel => exact ⟨q + 1, by omega, by omega, by go_num, s5.1.alloc s5.2 _, by have := s5.2; simp; omega⟩
          case measure => simp [intOf]; omega
      · clear hc hp
        go_wp2_with (go_at_call 22; refine (wakes_1 _).mono ?_; rintro e w1 ⟨rfl, hb1⟩)
        go_ret
        exact ⟨rfl, hB.trans (hb1.mono hz)⟩
    · clear hc hp
      go_wp2_with (go_at_call 22; refine (wakes_1 _).mono ?_; rintro e w1 ⟨rfl, hb1⟩)
      go_ret
      exact ⟨rfl, hB.trans (hb1.mono hz)⟩
end Go.Proofs.Ytfialajiaphciaa.law8
