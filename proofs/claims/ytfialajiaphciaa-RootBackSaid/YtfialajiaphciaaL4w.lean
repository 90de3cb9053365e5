/- RootWords and RootBack: the walks. -/
import Derived.Test.YtfialajiaphciaaL4a
namespace Go.Proofs.Ytfialajiaphciaa.law4
open Go.RowKit
attribute [local go_sem] uv_and uv_or uv_xor uv_andNot uv_shr uv_shl uv_add uv_sub uv_neg uv_beq uv_beq0 uv_beq1 uv_bne uv_bne0 u64_signed uv_not sv_i64 sv_shr uv_sv ones_shr sv_w64 uv_and1

set_option maxRecDepth 100000 in
set_option maxHeartbeats 16000000 in
theorem rwords_walk (pa : Option Addr) (b off len cap : Nat) (w : World) (hp : 0 < len → pa = some ⟨b, off, none⟩)
    (hc : ∀ i, i < len → ∃ on f t x, AskAt w b (off + i * 4) on f t x) :
    Calls Try.prog 3 #[.slice pa len cap] w fun e w' => e = .returned (.bool true) ∧ Below w.heap.size w w' := by
  have HP := Lib.hid hp
  have HC := Lib.hid hc
  clear hp hc
  go_enter Try.func3, Try.ntmps3
  go_wp2
  go_loopw [3] (fun i wr => ∃ k : Nat, k ≤ len ∧ k ≤ 15 ∧ i = .int .i64 k ∧ Below w.heap.size w wr ∧ w.heap.size ≤ wr.heap.size) (fun i _ => 15 - (intOf i).toNat)
  case atStart => exact ⟨0, Nat.zero_le _, Nat.zero_le _, rfl, Below.refl _ _, Nat.le_refl _⟩
  case round =>
    obtain ⟨k, hk, hk15, rfl, hB, hz⟩ := hrel
    have hp := HP.out
    have hc := HC.out
    clear HP HC
    by_cases hlt : k < len
    · by_cases hlt15 : k < 15
      · obtain ⟨on, f, t, x, hA⟩ := hc k hlt
        obtain rfl := hp (by omega)
        have A0 := ask_later hA hB
        have k0 : (0 : Int) ≤ (k : Int) := Int.natCast_nonneg _
        have k1 : (k : Int) < (len : Int) := by omega
        clear hc hp hA
        rcases hX : okR f t with _ | _ <;> rcases hW : okRof x with _ | _
        · have HX := Lib.hid hX
          have HW := Lib.hid hW
          clear hX hW
          obtain ⟨c0, c1, c2, c3⟩ := id A0
          go_wp2_with fail
          refine (rword_no _ _ _ _ HX.out).mono ?_
          rintro e w1 ⟨rfl, hb1⟩
          clear c0 c1 c2 c3
          have A1 := ask_later A0 hb1
          have s1 := below_next hB hz hb1
          clear A0 hb1
          obtain ⟨c0, c1, c2, c3⟩ := id A1
          go_wp2_with fail
          refine (rroot_eq _ _ _ _ _ HX.out).mono ?_
          rintro e w2 ⟨rfl, hb2⟩
          clear c0 c1 c2 c3
          have A2 := ask_later A1 hb2
          have s2 := below_next s1.1 s1.2 hb2
          clear A1 hb2 s1
          obtain ⟨c0, c1, c2, c3⟩ := id A2
          go_wp2_with fail
          refine (rof_no _ _ HW.out).mono ?_
          rintro e w4 ⟨rfl, hb4⟩
          clear c0 c1 c2 c3
          have A4 := ask_later A2 hb4
          have s4 := below_next s2.1 s2.2 hb4
          clear A2 hb4 s2
          obtain ⟨c0, c1, c2, c3⟩ := id A4
          have bl := World.block_lt_of_cell? _ _ c0
          go_wp2_with fail
          refine (rrof_no _ _ HW.out).mono ?_
          rintro e w5 ⟨rfl, hb5⟩
          clear c0 c1 c2 c3 bl
          have s5 := below_new s4.1 s4.2 hb5
          obtain ⟨f0, f1, f2⟩ := three_new hb5
          clear A4 hb5 s4
          have bl := World.block_lt_of_cell? _ _ f0
          have gq := guardRoot
          have ns := neq_same
          go_wp2_with (go_at_call 14; refine (num_any _ _).mono ?_; rintro e w7 ⟨rfl, rfl⟩)
          go_roundw
          case rel => exact ⟨k + 1, by omega, by omega, by go_num, s5.1.alloc s5.2 _, by have := s5.2; simp; omega⟩
          case measure => simp [intOf]; omega
        · have HX := Lib.hid hX
          have HW := Lib.hid hW
          clear hX hW
          obtain ⟨c0, c1, c2, c3⟩ := id A0
          go_wp2_with fail
          refine (rword_no _ _ _ _ HX.out).mono ?_
          rintro e w1 ⟨rfl, hb1⟩
          clear c0 c1 c2 c3
          have A1 := ask_later A0 hb1
          have s1 := below_next hB hz hb1
          clear A0 hb1
          obtain ⟨c0, c1, c2, c3⟩ := id A1
          go_wp2_with fail
          refine (rroot_eq _ _ _ _ _ HX.out).mono ?_
          rintro e w2 ⟨rfl, hb2⟩
          clear c0 c1 c2 c3
          have A2 := ask_later A1 hb2
          have s2 := below_next s1.1 s1.2 hb2
          clear A1 hb2 s1
          obtain ⟨c0, c1, c2, c3⟩ := id A2
          go_wp2_with fail
          refine (rof_yes _ _ HW.out).mono ?_
          rintro e w4 ⟨rfl, hb4⟩
          clear c0 c1 c2 c3
          have A4 := ask_later A2 hb4
          have s4 := below_next s2.1 s2.2 hb4
          clear A2 hb4 s2
          obtain ⟨c0, c1, c2, c3⟩ := id A4
          have bl := World.block_lt_of_cell? _ _ c0
          go_wp2_with fail
          refine (rrof_yes _ _ HW.out).mono ?_
          rintro e w5 ⟨rfl, hb5⟩
          clear c0 c1 c2 c3 bl
          have s5 := below_new s4.1 s4.2 hb5
          obtain ⟨f0, f1, f2⟩ := three_new hb5
          clear A4 hb5 s4
          have bl := World.block_lt_of_cell? _ _ f0
          have gq := guardRoot
          have ns := neq_same
          go_wp2_with (go_at_call 14; refine (num_any _ _).mono ?_; rintro e w7 ⟨rfl, rfl⟩)
          go_roundw
          case rel => exact ⟨k + 1, by omega, by omega, by go_num, s5.1.alloc s5.2 _, by have := s5.2; simp; omega⟩
          case measure => simp [intOf]; omega
        · have HX := Lib.hid hX
          have HW := Lib.hid hW
          clear hX hW
          obtain ⟨c0, c1, c2, c3⟩ := id A0
          go_wp2_with fail
          refine (rword_yes _ _ _ _ HX.out).mono ?_
          rintro e w1 ⟨rfl, hb1⟩
          clear c0 c1 c2 c3
          have A1 := ask_later A0 hb1
          have s1 := below_next hB hz hb1
          clear A0 hb1
          obtain ⟨c0, c1, c2, c3⟩ := id A1
          go_wp2_with fail
          refine (rroot_eq _ _ _ _ _ HX.out).mono ?_
          rintro e w2 ⟨rfl, hb2⟩
          clear c0 c1 c2 c3
          have A2 := ask_later A1 hb2
          have s2 := below_next s1.1 s1.2 hb2
          clear A1 hb2 s1
          obtain ⟨c0, c1, c2, c3⟩ := id A2
          go_wp2_with fail
          refine (rrootword _ _ _ _ HX.out).mono ?_
          rintro e w3 ⟨rfl, hb3⟩
          clear c0 c1 c2 c3
          have A3 := ask_later A2 hb3
          have s3 := below_next s2.1 s2.2 hb3
          clear A2 hb3 s2
          obtain ⟨c0, c1, c2, c3⟩ := id A3
          go_wp2_with fail
          refine (rof_no _ _ HW.out).mono ?_
          rintro e w4 ⟨rfl, hb4⟩
          clear c0 c1 c2 c3
          have A4 := ask_later A3 hb4
          have s4 := below_next s3.1 s3.2 hb4
          clear A3 hb4 s3
          obtain ⟨c0, c1, c2, c3⟩ := id A4
          have bl := World.block_lt_of_cell? _ _ c0
          go_wp2_with fail
          refine (rrof_no _ _ HW.out).mono ?_
          rintro e w5 ⟨rfl, hb5⟩
          clear c0 c1 c2 c3 bl
          have s5 := below_new s4.1 s4.2 hb5
          obtain ⟨f0, f1, f2⟩ := three_new hb5
          clear A4 hb5 s4
          have bl := World.block_lt_of_cell? _ _ f0
          have gq := guardRoot
          have ns := neq_same
          go_wp2_with (go_at_call 14; refine (num_any _ _).mono ?_; rintro e w7 ⟨rfl, rfl⟩)
          go_roundw
          case rel => exact ⟨k + 1, by omega, by omega, by go_num, s5.1.alloc s5.2 _, by have := s5.2; simp; omega⟩
          case measure => simp [intOf]; omega
        · have HX := Lib.hid hX
          have HW := Lib.hid hW
          clear hX hW
          obtain ⟨c0, c1, c2, c3⟩ := id A0
          go_wp2_with fail
          refine (rword_yes _ _ _ _ HX.out).mono ?_
          rintro e w1 ⟨rfl, hb1⟩
          clear c0 c1 c2 c3
          have A1 := ask_later A0 hb1
          have s1 := below_next hB hz hb1
          clear A0 hb1
          obtain ⟨c0, c1, c2, c3⟩ := id A1
          go_wp2_with fail
          refine (rroot_eq _ _ _ _ _ HX.out).mono ?_
          rintro e w2 ⟨rfl, hb2⟩
          clear c0 c1 c2 c3
          have A2 := ask_later A1 hb2
          have s2 := below_next s1.1 s1.2 hb2
          clear A1 hb2 s1
          obtain ⟨c0, c1, c2, c3⟩ := id A2
          go_wp2_with fail
          refine (rrootword _ _ _ _ HX.out).mono ?_
          rintro e w3 ⟨rfl, hb3⟩
          clear c0 c1 c2 c3
          have A3 := ask_later A2 hb3
          have s3 := below_next s2.1 s2.2 hb3
          clear A2 hb3 s2
          obtain ⟨c0, c1, c2, c3⟩ := id A3
          go_wp2_with fail
          refine (rof_yes _ _ HW.out).mono ?_
          rintro e w4 ⟨rfl, hb4⟩
          clear c0 c1 c2 c3
          have A4 := ask_later A3 hb4
          have s4 := below_next s3.1 s3.2 hb4
          clear A3 hb4 s3
          obtain ⟨c0, c1, c2, c3⟩ := id A4
          have bl := World.block_lt_of_cell? _ _ c0
          go_wp2_with fail
          refine (rrof_yes _ _ HW.out).mono ?_
          rintro e w5 ⟨rfl, hb5⟩
          clear c0 c1 c2 c3 bl
          have s5 := below_new s4.1 s4.2 hb5
          obtain ⟨f0, f1, f2⟩ := three_new hb5
          clear A4 hb5 s4
          have bl := World.block_lt_of_cell? _ _ f0
          have gq := guardRoot
          have ns := neq_same
          go_wp2_with (go_at_call 14; refine (num_any _ _).mono ?_; rintro e w7 ⟨rfl, rfl⟩)
          go_roundw
          case rel => exact ⟨k + 1, by omega, by omega, by go_num, s5.1.alloc s5.2 _, by have := s5.2; simp; omega⟩
          case measure => simp [intOf]; omega
      · clear hc hp
        go_wp2_with (go_at_call 15; refine (wakes_1 _).mono ?_; rintro e w1 ⟨rfl, hb1⟩)
        go_ret
        exact ⟨rfl, hB.trans (hb1.mono hz)⟩
    · clear hc hp
      go_wp2_with (go_at_call 15; refine (wakes_1 _).mono ?_; rintro e w1 ⟨rfl, hb1⟩)
      go_ret
      exact ⟨rfl, hB.trans (hb1.mono hz)⟩

theorem of_word (on : Bool) (f t : Int) (w : World) (h : okR f t = true) :
    Calls Try.prog 12 #[.int .u64 (uv (rootB on f t))] w fun e w' => e = .returned (.tuple #[.agg #[.bool on, .int .i64 f, .int .i64 t], .int .i64 0]) ∧ Below w.heap.size w w' := by
  obtain ⟨e1, e2, e3⟩ := root_back on f t h
  have H := rof_yes _ w (okRof_root on f t h)
  rwa [e1, e2, e3] at H
theorem uv_one_shl' (j : Nat) : IntKind.u64.wrap ((2 : Int) ^ j) = uv (1#64 <<< j) := uv_one_shl j
attribute [local go_sem] uv_one_shl'

set_option maxRecDepth 100000 in
set_option maxHeartbeats 16000000 in
theorem rback_walk (pa : Option Addr) (b off len cap : Nat) (w : World) (hp : 0 < len → pa = some ⟨b, off, none⟩)
    (hc : ∀ i, i < len → ∃ on f t x, AskAt w b (off + i * 4) on f t x) :
    Calls Try.prog 4 #[.slice pa len cap] w fun e w' => e = .returned (.bool true) ∧ Below w.heap.size w w' := by
  have HP := Lib.hid hp
  have HC := Lib.hid hc
  clear hp hc
  go_enter Try.func4, Try.ntmps4
  go_wp2
  go_loopw [3] (fun i wr => ∃ k : Nat, k ≤ len ∧ k ≤ 15 ∧ i = .int .i64 k ∧ Below w.heap.size w wr ∧ w.heap.size ≤ wr.heap.size) (fun i _ => 15 - (intOf i).toNat)
  case atStart => exact ⟨0, Nat.zero_le _, Nat.zero_le _, rfl, Below.refl _ _, Nat.le_refl _⟩
  case round =>
    obtain ⟨k, hk, hk15, rfl, hB, hz⟩ := hrel
    have hp := HP.out
    have hc := HC.out
    clear HP HC
    by_cases hlt : k < len
    · by_cases hlt15 : k < 15
      · obtain ⟨on, f, t, x, hA⟩ := hc k hlt
        obtain rfl := hp (by omega)
        have A0 := ask_later hA hB
        have k0 : (0 : Int) ≤ (k : Int) := Int.natCast_nonneg _
        have k1 : (k : Int) < (len : Int) := by omega
        clear hc hp hA
        rcases hX : okR f t with _ | _
        · have HX := Lib.hid hX
          clear hX
          obtain ⟨c0, c1, c2, c3⟩ := id A0
          go_wp2_with (first | (go_at_call 9; refine (rword_no _ _ _ _ HX.out).mono ?_; rintro e w1 ⟨rfl, hb1⟩) | (go_at_call 14; refine (num_any _ _).mono ?_; rintro e w7 ⟨rfl, rfl⟩))
          have s1 := below_next hB hz hb1
          go_roundw
          case rel => exact ⟨k + 1, by omega, by omega, by go_num, s1.1, s1.2⟩
          case measure => simp [intOf]; omega
        · have HX := Lib.hid hX
          clear hX
          obtain ⟨c0, c1, c2, c3⟩ := id A0
          go_wp2_with (first
            | (go_at_call 9; refine (rword_yes _ _ _ _ HX.out).mono ?_; rintro e w1 ⟨rfl, hb1⟩; clear c0 c1 c2 c3)
            | (go_at_call 14; refine (num_any _ _).mono ?_; rintro e w7 ⟨rfl, rfl⟩)
            | (go_at_call 12; refine (of_word _ _ _ _ HX.out).mono ?_; rintro e w2 ⟨rfl, hb2⟩; have A2 := ask_later (ask_later A0 hb1) hb2; obtain ⟨c0, c1, c2, c3⟩ := id A2; have bl := World.block_lt_of_cell? _ _ c0))
          have s2 := below_next (below_next hB hz hb1).1 (below_next hB hz hb1).2 hb2
          clear hb1 hb2 hB hz A0
          have gq := guardRoot
          have ns := neq_same
          go_quiet ((go_at_call 14; exact quiet_left (num_any _ _)))
          go_wp2_with fail
          have B2 : Below w.heap.size w ((w2.alloc (.cells #[.bool on, .int .i64 f, .int .i64 t] 28)).drewN nq) ∧ w.heap.size ≤ ((w2.alloc (.cells #[.bool on, .int .i64 f, .int .i64 t] 28)).drewN nq).heap.size := ⟨below_drewN (s2.1.alloc s2.2 _) _, by have := s2.2; simp; omega⟩
          clear c0 c1 c2 c3 bl A2
          go_loopw [8] (fun j wr => ∃ q : Nat, 1 ≤ q ∧ q ≤ 64 ∧ j = .int .i64 q ∧ (Below w.heap.size w wr ∧ w.heap.size ≤ wr.heap.size)) (fun j _ => 64 - (intOf j).toNat)
          case atStart => exact ⟨1, Nat.le_refl _, by omega, rfl, B2⟩
          case round =>
            clear B2
            obtain ⟨q, hq1, hq, rfl, ⟨hB, hz⟩⟩ := hrel
            by_cases hq64 : q < 64
            · have hcase : (12 ≤ q ∧ q < 24) ∨ (24 ≤ q ∧ 48 ≤ q ∧ q < 52) ∨ ((1 ≤ q ∧ q < 12) ∨ (24 ≤ q ∧ q < 48) ∨ (52 ≤ q ∧ q < 64)) := by omega
              rcases hcase with ⟨h1, h2⟩ | ⟨h1, h2, h3⟩ | hbit
              · go_wp2
                go_roundw
                case rel => exact ⟨q + 1, by omega, by omega, by go_num, hB, hz⟩
                case measure => simp [intOf]; omega
              · go_wp2
                go_roundw
                case rel => exact ⟨q + 1, by omega, by omega, by go_num, hB, hz⟩
                case measure => simp [intOf]; omega
              · have HW := Lib.hid (okRof_bit (rootB on f t) q hbit)
                rcases hbit with ⟨h1, h2⟩ | ⟨h1, h2⟩ | ⟨h1, h2⟩
                all_goals
                  go_wp2_with (first
                    | (go_at_call 12; refine (rof_no _ _ HW.out).mono ?_; rintro e w3 ⟨rfl, hb3⟩)
                    | (go_at_call 14; refine (num_any _ _).mono ?_; rintro e w7 ⟨rfl, rfl⟩))
                  have s3 := below_next hB hz hb3
                  go_roundw
                  case rel => exact ⟨q + 1, by omega, by omega, by go_num, s3.1.alloc s3.2 _, by have := s3.2; simp; omega⟩
                  case measure => simp [intOf]; omega
            · go_wp2
              go_roundw
              case rel => exact ⟨k + 1, by omega, by omega, by go_num, hB, hz⟩
              case measure => simp [intOf]; omega
      · clear hc hp
        go_wp2_with (go_at_call 15; refine (wakes_1 _).mono ?_; rintro e w1 ⟨rfl, hb1⟩)
        go_ret
        exact ⟨rfl, hB.trans (hb1.mono hz)⟩
    · clear hc hp
      go_wp2_with (go_at_call 15; refine (wakes_1 _).mono ?_; rintro e w1 ⟨rfl, hb1⟩)
      go_ret
      exact ⟨rfl, hB.trans (hb1.mono hz)⟩
end Go.Proofs.Ytfialajiaphciaa.law4
