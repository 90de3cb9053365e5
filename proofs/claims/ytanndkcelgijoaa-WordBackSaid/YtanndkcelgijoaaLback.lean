/- WordBack: the walk. -/
import Derived.Test.YtanndkcelgijoaaL1a
import Derived.Test.YtanndkcelgijoaaL1o
import Derived.Test.YtanndkcelgijoaaH
import Derived.Test.YtanndkcelgijoaaBits
import Derived.Test.YtanndkcelgijoaaWithin
namespace Go.Proofs.Ytanndkcelgijoaa
open Go.RowKit
attribute [local go_sem] uv_and uv_or uv_xor uv_andNot uv_shr uv_shl uv_add uv_sub uv_neg uv_beq uv_beq0 uv_beq1 u64_signed uv_not sv_i64 sv_shr uv_sv ones_shr

set_option maxRecDepth 100000 in
set_option maxHeartbeats 8000000 in
theorem back_walk (pa : Option Addr) (b off len cap : Nat) (w : World) (hp : 0 < len → pa = some ⟨b, off, none⟩)
    (hc : ∀ i, i < len → ∃ V p l c A N, AskAt w b (off + i * 4) V p l c A N ∧ (-9223372036854775808 ≤ A ∧ A ≤ 9223372036854775807) ∧ (-9223372036854775808 ≤ N ∧ N ≤ 9223372036854775807)) :
    Calls Try.prog 5 #[.slice pa len cap] w fun e w' => e = .returned (.bool true) ∧ Below w.heap.size w w' := by
  have HP := Lib.hid hp
  have HC := Lib.hid hc
  clear hp hc
  go_enter Try.func5, Try.ntmps5
  go_wp2
  go_loopw [3] (fun i wr => ∃ k : Nat, k ≤ len ∧ k ≤ 15 ∧ i = .int .i64 k ∧ Below w.heap.size w wr ∧ w.heap.size ≤ wr.heap.size) (fun i _ => 15 - (intOf i).toNat)
  case atStart => exact ⟨0, Nat.zero_le _, Nat.zero_le _, rfl, Below.refl _ _, Nat.le_refl _⟩
  case round =>
    obtain ⟨k, hk, hk15, rfl, hB, hz⟩ := hrel
    have hp := HP.out
    have hc := HC.out
    clear HP HC
    by_cases hlt : k < len
    · by_cases hlt15 : k < 15
      · obtain ⟨V, p, l, c, A, N, ⟨e0, e1, e2, e3⟩, _, _⟩ := hc k hlt
        obtain rfl := hp (by omega)
        have hbl := World.block_lt_of_cell? _ _ e0
        have d0 := (hB.cell (p := ⟨b, off + k * 4, none⟩) hbl).trans e0
        have d2 := (hB.cell (p := ⟨b, off + k * 4 + 2, none⟩) hbl).trans e2
        have d3 := (hB.cell (p := ⟨b, off + k * 4 + 3, none⟩) hbl).trans e3
        clear hc hp e0 e1 e2 e3
        go_wp2_with fail
        refine (within_any _ _ _ (by omega) (by omega)).mono ?_
        rintro e w1 ⟨a, ⟨ha1, ha2⟩, rfl, rfl⟩
        go_wp2_with fail
        refine (within_any _ _ _ (by omega) (by omega)).mono ?_
        rintro e w1 ⟨r, ⟨hr1, hr2⟩, rfl, rfl⟩
        have hF : fitsB a (1 + r) = true := by simp [fitsB]; omega
        have HF := Lib.hid hF
        have g1 : getB (putB V a (1 + r) (getB (~~~V) a (1 + r))) a (1 + r) = getB (~~~V) a (1 + r) := get_put _ _ _ _ (get_may _ _ _ hF)
        have g2 : putB (putB V a (1 + r) (getB (~~~V) a (1 + r))) a (1 + r) (getB V a (1 + r)) = V := put_put _ _ _ _ (get_may _ _ _ hF)
        have g3 : putB V a (1 + r) (getB (~~~V) a (1 + r)) ^^^ V = lowB (1 + r) <<< a.toNat := put_flip _ _ _ hF
        have G1 := Lib.hid g1
        have G2 := Lib.hid g2
        have G3 := Lib.hid g3
        clear hF g1 g2 g3
        go_wp2_with fail
        refine (get_yes _ _ _ _ HF.out).mono ?_
        rintro e w1 ⟨rfl, hb1⟩
        have t := cell_later hb1 d0
        have s := below_next hB hz hb1
        clear d0 d2 d3 hB hz hb1
        go_wp2_with fail
        refine (get_yes _ _ _ _ HF.out).mono ?_
        rintro e w2 ⟨rfl, hb2⟩
        have t2 := cell_later hb2 t
        have s2 := below_next s.1 s.2 hb2
        clear t s hb2
        go_wp2_with fail
        refine (put_yes _ _ _ _ _ (get_may _ _ _ HF.out)).mono ?_
        rintro e w3 ⟨rfl, hb3⟩
        have t3 := cell_later hb3 t2
        have s3 := below_next s2.1 s2.2 hb3
        clear t2 s2 hb3
        go_wp2_with fail
        refine (put_yes _ _ _ _ _ (get_may _ _ _ HF.out)).mono ?_
        rintro e w4 ⟨rfl, hb4⟩
        have t4 := cell_later hb4 t3
        have s4 := below_next s3.1 s3.2 hb4
        clear t3 s3 hb4
        go_wp2_with fail
        refine (get_yes _ _ _ _ HF.out).mono ?_
        rintro e w5 ⟨rfl, hb5⟩
        have t5 := cell_later hb5 t4
        have s5 := below_next s4.1 s4.2 hb5
        clear t4 s4 hb5
        have g1 := G1.out
        have g2 := G2.out
        have g3 := G3.out
        clear G1 G2 G3
        go_wp2_with (first | (go_at_call 10; refine (num_any _ _).mono ?_; rintro e w6 ⟨rfl, rfl⟩) | (go_at_call 19; refine (rmask _ _ (by omega) (by omega)).mono ?_; rintro e w6 ⟨rfl, rfl⟩))
        go_roundw
        case rel => exact ⟨k + 1, by omega, by omega, by go_num, s5.1, s5.2⟩
        case measure => simp [intOf]; omega
      · clear hc hp
        go_wp2_with (go_at_call 13; refine (wakes_1 _).mono ?_; rintro e w1 ⟨rfl, hb1⟩)
        go_ret
        exact ⟨rfl, hB.trans (hb1.mono hz)⟩
    · clear hc hp
      go_wp2_with (go_at_call 13; refine (wakes_1 _).mono ?_; rintro e w1 ⟨rfl, hb1⟩)
      go_ret
      exact ⟨rfl, hB.trans (hb1.mono hz)⟩
end Go.Proofs.Ytanndkcelgijoaa
