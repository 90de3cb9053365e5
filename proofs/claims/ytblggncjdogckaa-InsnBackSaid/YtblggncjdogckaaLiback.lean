/- InsnBack: the walk. -/
import Derived.Test.YtblggncjdogckaaL11a
import Derived.Test.YtblggncjdogckaaWithin
namespace Go.Proofs.Ytblggncjdogckaa
open Go.RowKit
attribute [local go_sem] uv_and uv_or uv_xor uv_andNot uv_shr uv_shl uv_add uv_sub uv_neg uv_beq uv_beq0 uv_beq1 uv_bne0 u64_signed uv_not sv_i64 sv_shr uv_sv ones_shr uv_and4095 u3_and u3_or u3_and7 u3_and4095 u3_shr27 u3_shr24 u3_shr21 u3_shr18 u3_shl27 u3_shl24 u3_shl21 u3_shl18 u3_uv u3_i64 u3_w64 u3_u64 sv_w64 u3_beq u3_bne u3_xor

theorem u3_one_shl (j : Nat) : IntKind.u32.wrap ((2 : Int) ^ j) = u3 (1#32 <<< j) := by
  rw [← u3_shl]
  have : u3 1#32 = 1 := rfl
  rw [this, Int.one_mul]
attribute [local go_sem] u3_one_shl
theorem eql_diff (a b c d e a' b' c' d' e' : Int) (w : World) (h : (a == a' && b == b' && c == c' && d == d' && e == e') = false) :
    (binOp .eql 28 (.agg #[.int .i64 a, .int .i64 b, .int .i64 c, .int .i64 d, .int .i64 e]) (.agg #[.int .i64 a', .int .i64 b', .int .i64 c', .int .i64 d', .int .i64 e'])).run Try.prog w = .ok (.bool false) w := by
  have hs := stood28
  have k := @Try.underlying28
  have k3 := @Try.underlying3
  rcases ha : (a == a') with _ | _
  · clear h; go_simp
  rcases hb : (b == b') with _ | _
  · clear h; go_simp
  rcases hc : (c == c') with _ | _
  · clear h; go_simp
  rcases hd : (d == d') with _ | _
  · clear h; go_simp
  rcases he : (e == e') with _ | _
  · clear h; go_simp
  · rw [ha, hb, hc, hd, he] at h; cases h
theorem within_c (w : World) : Calls Try.prog 21 #[.int .i64 3, .int .i64 2] w fun e w' => e = .returned (.int .i64 1) ∧ w = w' :=
  within_eq 3 2 w (by omega) (by omega)
theorem ok_enc {op d n m imm : Int} (h : okI op d n m imm = true) : opD (wordB op d n m imm) = op ∧ dD (wordB op d n m imm) = d ∧ nD (wordB op d n m imm) = n ∧ mD (wordB op d n m imm) = m ∧ immD (wordB op d n m imm) = imm := by
  obtain ⟨⟨b1, b2⟩, ⟨b3, b4⟩, ⟨b5, b6⟩, ⟨b7, b8⟩, b9, b10⟩ := okI_bd h
  exact dec_enc op d n m imm (by omega) (by omega) (by omega) (by omega) (by omega) (by omega) (by omega) (by omega) (by omega) (by omega)
theorem of_word (op d n m imm : Int) (w : World) (h : okI op d n m imm = true) :
    Calls Try.prog 16 #[.int .u32 (u3 (wordB op d n m imm))] w fun e w' => e = .returned (.tuple #[.agg #[.int .i64 op, .int .i64 d, .int .i64 n, .int .i64 m, .int .i64 imm], .int .i64 0]) ∧ Below w.heap.size w w' := by
  obtain ⟨e1, e2, e3, e4, e5⟩ := ok_enc h
  have hk : okOf (wordB op d n m imm) = true := by
    unfold okOf
    rw [e1, e2, e3, e4, e5, h]
    simp
  have H := of_yes _ w hk
  rwa [e1, e2, e3, e4, e5] at H
theorem turned (Z : BitVec 32) (j : Nat) (hj : j < 32) (op d n m imm : Int) (hz : Z = wordB op d n m imm) (hk : okOf (Z ^^^ 1#32 <<< j) = true) :
    (opD (Z ^^^ 1#32 <<< j) == op && dD (Z ^^^ 1#32 <<< j) == d && nD (Z ^^^ 1#32 <<< j) == n && mD (Z ^^^ 1#32 <<< j) == m && immD (Z ^^^ 1#32 <<< j) == imm) = false := by
  rw [Bool.eq_false_iff]
  intro h
  simp only [Bool.and_eq_true, beq_iff_eq] at h
  obtain ⟨⟨⟨⟨h1, h2⟩, h3⟩, h4⟩, h5⟩ := h
  unfold okOf at hk
  rw [Bool.and_eq_true, beq_iff_eq, h1, h2, h3, h4, h5, ← hz] at hk
  have h6 := hk.2
  have h7 := congrArg (fun y : BitVec 32 => y.getLsbD j) h6
  simp only [BitVec.getLsbD_xor, BitVec.getLsbD_shiftLeft] at h7
  cases hzj : Z.getLsbD j <;> rw [hzj] at h7 <;> simp [hj] at h7

set_option maxRecDepth 100000 in
set_option maxHeartbeats 16000000 in
theorem iback_walk (pa : Option Addr) (b off len cap : Nat) (w : World) (hp : 0 < len → pa = some ⟨b, off, none⟩)
    (hc : ∀ i, i < len → ∃ op d n m imm x, AskAt w b (off + i * 6) op d n m imm x) :
    Calls Try.prog 4 #[.slice pa len cap] w fun e w' => e = .returned (.bool true) ∧ Below w.heap.size w w' := by
  have HP := Lib.hid hp
  have HC := Lib.hid hc
  clear hp hc
  go_enter Try.func4, Try.ntmps4
  go_wp2
  go_loopw [3] (fun i wr => ∃ k : Nat, k ≤ len ∧ k ≤ 20 ∧ i = .int .i64 k ∧ Below w.heap.size w wr ∧ w.heap.size ≤ wr.heap.size) (fun i _ => 20 - (intOf i).toNat)
  case atStart => exact ⟨0, Nat.zero_le _, Nat.zero_le _, rfl, Below.refl _ _, Nat.le_refl _⟩
  case round =>
    obtain ⟨k, hk, hk20, rfl, hB, hz⟩ := hrel
    have hp := HP.out
    have hc := HC.out
    clear HP HC
    by_cases hlt : k < len
    · by_cases hlt20 : k < 20
      · obtain ⟨op, d, n, m, imm, x, hA⟩ := hc k hlt
        obtain rfl := hp (by omega)
        have A0 := ask_old hA hB
        have k0 : (0 : Int) ≤ (k : Int) := Int.natCast_nonneg _
        have k1 : (k : Int) < (len : Int) := by omega
        clear hc hp hA
        rcases hX : okI op d n m imm with _ | _
        · have HX := Lib.hid hX
          clear hX
          obtain ⟨c0, c1, c2, c3, c4, c5⟩ := id A0
          go_wp2_with (first | (go_at_call 13; refine (word_no _ _ _ _ _ _ HX.out).mono ?_; rintro e w1 ⟨rfl, hb1⟩) | (go_at_call 18; refine (num_any _ _).mono ?_; rintro e w7 ⟨rfl, rfl⟩))
          have s1 := below_next hB hz hb1
          go_roundw
          case rel => exact ⟨k + 1, by omega, by omega, by go_num, s1.1, s1.2⟩
          case measure => simp [intOf]; omega
        · have HX := Lib.hid hX
          clear hX
          obtain ⟨c0, c1, c2, c3, c4, c5⟩ := id A0
          go_wp2_with (first
            | (go_at_call 13; refine (word_yes _ _ _ _ _ _ HX.out).mono ?_; rintro e w1 ⟨rfl, hb1⟩; clear c0 c1 c2 c3 c4 c5)
            | (go_at_call 18; refine (num_any _ _).mono ?_; rintro e w7 ⟨rfl, rfl⟩)
            | (go_at_call 16; refine (of_word _ _ _ _ _ _ HX.out).mono ?_; rintro e w2 ⟨rfl, hb2⟩; have A2 := ask_later (ask_later A0 hb1) hb2; obtain ⟨c0, c1, c2, c3, c4, c5⟩ := id A2; have bl := World.block_lt_of_cell? _ _ c0))
          have s2 := below_next (below_next hB hz hb1).1 (below_next hB hz hb1).2 hb2
          clear hb1 hb2 hB hz A0
          have gq := guard28
          have ns := neq_same
          go_quiet ((go_at_call 18; exact quiet_left (num_any _ _)))
          go_wp2_with fail
          have B2 : Below w.heap.size w ((w2.alloc (.cells #[.int .i64 op, .int .i64 d, .int .i64 n, .int .i64 m, .int .i64 imm] 28)).drewN nq) ∧ w.heap.size ≤ ((w2.alloc (.cells #[.int .i64 op, .int .i64 d, .int .i64 n, .int .i64 m, .int .i64 imm] 28)).drewN nq).heap.size := ⟨below_drewN (s2.1.alloc s2.2 _) _, by have := s2.2; simp; omega⟩
          have F2 : Five ((w2.alloc (.cells #[.int .i64 op, .int .i64 d, .int .i64 n, .int .i64 m, .int .i64 imm] 28)).drewN nq) w2.heap.size op d n m imm := five_later (five_new (Below.refl _ _)) (below_drewN (Below.refl _ _) _)
          clear c0 c1 c2 c3 c4 c5 bl A2
          go_loopw [8] (fun j wr => ∃ q : Nat, q ≤ 32 ∧ j = .int .i64 q ∧ (Below w.heap.size w wr ∧ w.heap.size ≤ wr.heap.size) ∧ Five wr w2.heap.size op d n m imm) (fun j _ => 32 - (intOf j).toNat)
          case atStart => exact ⟨0, Nat.zero_le _, rfl, B2, F2⟩
          case round =>
            clear B2 F2
            obtain ⟨q, hq, rfl, ⟨hB, hz⟩, F⟩ := hrel
            by_cases hq32 : q < 32
            · rcases hW : okOf (wordB op d n m imm ^^^ 1#32 <<< q) with _ | _
              · have HW := Lib.hid hW
                clear hW
                go_wp2_with (first
                  | (go_at_call 16; refine (of_no _ _ HW.out).mono ?_; rintro e w3 ⟨rfl, hb3⟩)
                  | (go_at_call 18; refine (num_any _ _).mono ?_; rintro e w7 ⟨rfl, rfl⟩))
                have s3 := below_next hB hz hb3
                go_roundw
                case rel => exact ⟨q + 1, by omega, by go_num, ⟨s3.1.alloc s3.2 _, by have := s3.2; simp; omega⟩, five_later (five_later F hb3) ((Below.refl _ _).alloc (Nat.le_refl _) _)⟩
                case measure => simp [intOf]; omega
              · have hT := turned (wordB op d n m imm) q hq32 op d n m imm rfl hW
                have hk := hW
                unfold okOf at hk
                rw [Bool.and_eq_true, beq_iff_eq] at hk
                have hY := fun w => word_yes _ _ _ _ _ w hk.1
                rw [hk.2] at hY
                have HW := Lib.hid hW
                have HT := Lib.hid hT
                have HY := Lib.hid hY
                clear hW hT hY hk
                go_wp2_with (first
                  | (go_at_call 16; refine (of_yes _ _ HW.out).mono ?_; rintro e w3 ⟨rfl, hb3⟩)
                  | (go_at_call 18; refine (num_any _ _).mono ?_; rintro e w7 ⟨rfl, rfl⟩)
                  | (go_at_call 13; refine (HY.out _).mono ?_; rintro e w4 ⟨rfl, hb4⟩; obtain ⟨f0, f1, f2, f3, f4⟩ := five_over (five_later F hb3) hb4; obtain ⟨g0, g1, g2, g3, g4⟩ := five_new hb4; have hqq := fun w => eql_diff _ _ _ _ _ _ _ _ _ _ w HT.out))
                have s3 := below_next hB hz hb3
                have s4 := below_new s3.1 s3.2 hb4
                go_roundw
                case rel => exact ⟨q + 1, by omega, by go_num, s4, f0, f1, f2, f3, f4⟩
                case measure => simp [intOf]; omega
            · go_wp2
              go_roundw
              case rel => exact ⟨k + 1, by omega, by omega, by go_num, hB, hz⟩
              case measure => simp [intOf]; omega
      · clear hc hp
        go_wp2_with (first
          | (go_at_call 20; refine (wakes_1 _).mono ?_; rintro e w1 ⟨rfl, hb1⟩)
          | (go_at_call 21; refine (within_c _).mono ?_; rintro e w1 ⟨rfl, rfl⟩))
        go_ret
        exact ⟨rfl, hB.trans (hb1.mono hz)⟩
    · clear hc hp
      go_wp2_with (first
        | (go_at_call 20; refine (wakes_1 _).mono ?_; rintro e w1 ⟨rfl, hb1⟩)
        | (go_at_call 21; refine (within_c _).mono ?_; rintro e w1 ⟨rfl, rfl⟩))
      go_ret
      exact ⟨rfl, hB.trans (hb1.mono hz)⟩
end Go.Proofs.Ytblggncjdogckaa
