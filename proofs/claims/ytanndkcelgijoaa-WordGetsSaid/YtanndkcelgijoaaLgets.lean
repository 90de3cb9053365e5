/- WordGets: the walk. -/
import Derived.Test.YtanndkcelgijoaaL1a
import Derived.Test.YtanndkcelgijoaaL1o
namespace Go.Proofs.Ytanndkcelgijoaa
open Go.RowKit
attribute [local go_sem] uv_and uv_or uv_xor uv_andNot uv_shr uv_shl uv_add uv_sub uv_neg uv_beq uv_beq0 uv_beq1 u64_signed uv_not sv_i64 sv_shr uv_sv ones_shr

set_option maxRecDepth 100000 in
set_option maxHeartbeats 8000000 in
theorem gets_walk (pa : Option Addr) (b off len cap : Nat) (w : World) (hp : 0 < len → pa = some ⟨b, off, none⟩)
    (hc : ∀ i, i < len → ∃ V p l c A N, AskAt w b (off + i * 4) V p l c A N) :
    Calls Try.prog 3 #[.slice pa len cap] w fun e w' => e = .returned (.bool true) ∧ Below w.heap.size w w' := by
  have HP := Lib.hid hp
  have HC := Lib.hid hc
  clear hp hc
  go_enter Try.func3, Try.ntmps3
  go_wp2
  go_loopw [3] (fun i wr => ∃ k : Nat, k ≤ len ∧ k ≤ 15 ∧ i = .int .i64 k ∧ Below w.heap.size w wr ∧ w.heap.size ≤ wr.heap.size) (fun i _ => 15 - (intOf i).toNat)
  case atStart => exact ⟨0, Nat.zero_le _, Nat.zero_le _, rfl, Below.refl _ _, Nat.le_refl _⟩
  case round =>
    obtain ⟨k, hk, hk15, rfl, hB, hz⟩ := hrel
    have hp := HP.out
    have hc := HC.out
    clear HP HC
    by_cases hlt : k < len
    · by_cases hlt15 : k < 15
      · obtain ⟨V, p, l, c, A, N, e0, e1, e2, e3⟩ := hc k hlt
        obtain rfl := hp (by omega)
        have hbl := World.block_lt_of_cell? _ _ e0
        have d0 := (hB.cell (p := ⟨b, off + k * 4, none⟩) hbl).trans e0
        have d1 := (hB.cell (p := ⟨b, off + k * 4 + 1, none⟩) hbl).trans e1
        have d2 := (hB.cell (p := ⟨b, off + k * 4 + 2, none⟩) hbl).trans e2
        have d3 := (hB.cell (p := ⟨b, off + k * 4 + 3, none⟩) hbl).trans e3
        clear hc hp e0 e1 e2 e3
        rcases Bool.eq_false_or_eq_true (fitsB A N) with hA | hA <;> rcases Bool.eq_false_or_eq_true (fitsB 0 N) with hN | hN
        all_goals
          have HA := Lib.hid hA
          have HN := Lib.hid hN
          clear hA hN
          go_wp2_with (first
            | (go_at_call 7; first | refine (get_yes _ _ _ _ HA.out).mono ?_ | refine (get_no _ _ _ _ HA.out).mono ?_
               rintro e w1 ⟨rfl, hb1⟩; obtain ⟨c0, c1, c2, c3⟩ := new4 hb1; obtain ⟨hB1, hz1⟩ := below_new hB hz hb1; clear hb1 d0 d1 d2 d3)
            | (go_at_call 10; refine (num_any _ _).mono ?_; rintro e w2 ⟨rfl, rfl⟩)
            | (go_at_call 8; first | refine (fairly_yes _ _ _ HA.out).mono ?_ | refine (fairly_no _ _ _ HA.out).mono ?_ | refine (fairly_yes _ _ _ HN.out).mono ?_ | refine (fairly_no _ _ _ HN.out).mono ?_
               rintro e w2 ⟨rfl, rfl⟩)
            | (go_at_call 9; refine (rget _ _ _ _ HA.out).mono ?_
               rintro e w2 ⟨rfl, hb2⟩; have t := later4 hb2 c0 c1 c2 c3; clear c0 c1 c2 c3; obtain ⟨c0, c1, c2, c3⟩ := t; have t := below_next hB1 hz1 hb2; clear hB1 hz1 hb2; obtain ⟨hB1, hz1⟩ := t)
            | (go_at_call 11; first | refine (sign_yes _ _ _ HN.out).mono ?_ | refine (sign_no _ _ _ HN.out).mono ?_
               rintro e w2 ⟨rfl, rfl⟩)
            | (go_at_call 12; refine (rsign _ _ _ HN.out).mono ?_; rintro e w2 ⟨rfl, rfl⟩))
          go_roundw
          case rel => exact ⟨k + 1, by omega, by omega, by go_num, hB1, hz1⟩
          case measure => simp [intOf]; omega
      · clear hc hp
        go_wp2_with (go_at_call 13; refine (wakes_1 _).mono ?_; rintro e w1 ⟨rfl, hb1⟩)
        go_ret
        exact ⟨rfl, hB.trans (hb1.mono hz)⟩
    · clear hc hp
      go_wp2_with (go_at_call 13; refine (wakes_1 _).mono ?_; rintro e w1 ⟨rfl, hb1⟩)
      go_ret
      exact ⟨rfl, hB.trans (hb1.mono hz)⟩
end Go.Proofs.Ytanndkcelgijoaa
