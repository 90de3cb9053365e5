/- WordPuts: the walk. -/
import Derived.Test.YtanndkcelgijoaaL1a
import Derived.Test.YtanndkcelgijoaaL1o
import Derived.Test.YtanndkcelgijoaaH
namespace Go.Proofs.Ytanndkcelgijoaa
open Go.RowKit
attribute [local go_sem] uv_and uv_or uv_xor uv_andNot uv_shr uv_shl uv_add uv_sub uv_neg uv_beq uv_beq0 uv_beq1 u64_signed uv_not sv_i64 sv_shr uv_sv ones_shr

theorem heavy_any (V : BitVec 64) (p : Option Addr) (l c : Nat) (A N : Int) (w : World) (b : Bool) (hb : decide ((200 : Int) < l) = b) :
    Calls Try.prog 14 #[.agg #[.int .u64 (uv V), .slice p l c, .int .i64 A, .int .i64 N]] w fun e w' => e = .returned (.bool b) ∧ Below w.heap.size w w' := by
  go_enter Try.func14, Try.ntmps14
  go_wp2
  go_ret
  exact ⟨rfl, (Below.refl _ _).alloc (Nat.le_refl _) _⟩

set_option maxRecDepth 100000 in
set_option maxHeartbeats 8000000 in
theorem puts_walk (pa : Option Addr) (b off len cap : Nat) (w : World) (hp : 0 < len → pa = some ⟨b, off, none⟩)
    (hc : ∀ i, i < len → ∃ V p l c A N, AskAt w b (off + i * 4) V p l c A N ∧ FieldsAt w p l) :
    Calls Try.prog 4 #[.slice pa len cap] w fun e w' => e = .returned (.bool true) ∧ Below w.heap.size w w' := by
  have HP := Lib.hid hp
  have HC := Lib.hid hc
  clear hp hc
  go_enter Try.func4, Try.ntmps4
  go_wp2
  go_loopw [3] (fun i wr => ∃ k : Nat, k ≤ len ∧ k ≤ 15 ∧ i = .int .i64 k ∧ Below w.heap.size w wr ∧ w.heap.size ≤ wr.heap.size) (fun i _ => 15 - (intOf i).toNat)
  case atStart => exact ⟨0, Nat.zero_le _, Nat.zero_le _, rfl, Below.refl _ _, Nat.le_refl _⟩
  case round =>
    obtain ⟨k, hk, hk15, rfl, hB, hz⟩ := hrel
    have hp := HP.out
    have hc := HC.out
    clear HP HC
    by_cases hlt : k < len
    · by_cases hlt15 : k < 15
      · obtain ⟨V, p, l, c, A, N, ⟨e0, e1, e2, e3⟩, fb, fo, hfp, hfe⟩ := hc k hlt
        obtain rfl := hp (by omega)
        have hbl := World.block_lt_of_cell? _ _ e0
        have d0 := (hB.cell (p := ⟨b, off + k * 4, none⟩) hbl).trans e0
        have d1 := (hB.cell (p := ⟨b, off + k * 4 + 1, none⟩) hbl).trans e1
        have d2 := (hB.cell (p := ⟨b, off + k * 4 + 2, none⟩) hbl).trans e2
        have d3 := (hB.cell (p := ⟨b, off + k * 4 + 3, none⟩) hbl).trans e3
        have HFP := Lib.hid hfp
        have HFE := Lib.hid hfe
        have E0 := Lib.hid e0
        have E1 := Lib.hid e1
        clear hc hp e0 e1 e2 e3 hfp hfe
        by_cases hh : 200 < l
        · have hd : decide ((200 : Int) < l) = true := by rw [decide_eq_true_eq]; omega
          go_wp2_with (go_at_call 14; refine (heavy_any _ _ _ _ _ _ _ _ hd).mono ?_; rintro e w1 ⟨rfl, hb1⟩)
          go_ret
          exact ⟨rfl, (below_next hB hz hb1).1⟩
        · have hd : decide ((200 : Int) < l) = false := by rw [decide_eq_false_iff_not]; omega
          have HD := Lib.hid hd
          clear hd
          go_wp2_with (go_at_call 14; refine (heavy_any _ _ _ _ _ _ _ _ HD.out).mono ?_; rintro e w1 ⟨rfl, hb1⟩; obtain ⟨hB1, hz1⟩ := below_next hB hz hb1; clear hb1 d0 d1 d2 d3)
          clear hB hz HD
          go_loopw [4] (fun j wr => ∃ m : Nat, m ≤ l ∧ m ≤ 10 ∧ j = .int .i64 m ∧ Below w.heap.size w wr ∧ w.heap.size ≤ wr.heap.size) (fun j _ => 10 - (intOf j).toNat)
          case atStart => exact ⟨0, Nat.zero_le _, Nat.zero_le _, rfl, hB1, hz1⟩
          case round =>
            obtain ⟨m, hm, hm10, rfl, hB, hz⟩ := hrel
            have d0 := (hB.cell (p := ⟨b, off + k * 4, none⟩) hbl).trans E0.out
            have d1 := (hB.cell (p := ⟨b, off + k * 4 + 1, none⟩) hbl).trans E1.out
            by_cases hlm : m < l
            · by_cases hlm10 : m < 10
              · obtain ⟨a, n, x, f0, f1, f2⟩ := HFE.out m hlm
                obtain rfl := HFP.out (by omega)
                have hfl := World.block_lt_of_cell? _ _ f0
                have g0 := (hB.cell (p := ⟨fb, fo + m * 3, none⟩) hfl).trans f0
                have g1 := (hB.cell (p := ⟨fb, fo + m * 3 + 1, none⟩) hfl).trans f1
                have g2 := (hB.cell (p := ⟨fb, fo + m * 3 + 2, none⟩) hfl).trans f2
                clear f0 f1 f2
                have k0 : (0 : Int) ≤ (k : Int) := Int.natCast_nonneg _
                have k1 : (k : Int) < (len : Int) := by omega
                rcases Bool.eq_false_or_eq_true (mayB a n x) with hA | hA
                · have hF : fitsB a n = true := by unfold mayB at hA; rw [Bool.and_eq_true] at hA; exact hA.1
                  have HF := Lib.hid hF
                  have HA := Lib.hid hA
                  clear hA hF
                  go_wp2_with fail
                  go_region_held3 (fun w' => w'.cell? ⟨b, off + k * 4, none⟩ = some (.int .u64 (uv V)) ∧ w'.cell? ⟨wr.heap.size, 0, none⟩ = some (.int .i64 a) ∧ w'.cell? ⟨wr.heap.size, 1, none⟩ = some (.int .i64 n) ∧ w'.cell? ⟨wr.heap.size, 2, none⟩ = some (.int .u64 (uv x)))
                    (first | go_keep | exact held4 hb2 (by assumption))
                    (first | (go_at_call 15; refine (put_yes _ _ _ _ _ HA.out).mono ?_; rintro e w2 ⟨rfl, hb2⟩))
                  have hS2 : w2.cell? ⟨b, off + k * 4, none⟩ = some (.int .u64 (uv V)) ∧ w2.cell? ⟨wr.heap.size, 0, none⟩ = some (.int .i64 a) ∧ w2.cell? ⟨wr.heap.size, 1, none⟩ = some (.int .i64 n) ∧ w2.cell? ⟨wr.heap.size, 2, none⟩ = some (.int .u64 (uv x)) := by assumption
                  obtain ⟨hB2, hz2⟩ : Below w.heap.size w w2 ∧ w.heap.size ≤ w2.heap.size := ⟨((hB.alloc hz _).drew).trans (hb2.mono (by simp; omega)), by have := hb2.size; simp at this; omega⟩
                  clear d0 d1 g0 g1 g2 hB hz hb2
                  go_wp2_with (go_at_call 16; refine (rfield_yes _ _ _ _ HA.out).mono ?_; rintro e w3 ⟨rfl, hb3⟩; have hS3 := held4 hb3 hS2; obtain ⟨hB3, hz3⟩ := below_next hB2 hz2 hb3; clear hb3 hS2 hB2 hz2)
                  go_region_held3 (fun w' => w'.cell? ⟨b, off + k * 4, none⟩ = some (.int .u64 (uv V)) ∧ w'.cell? ⟨wr.heap.size, 0, none⟩ = some (.int .i64 a) ∧ w'.cell? ⟨wr.heap.size, 1, none⟩ = some (.int .i64 n) ∧ w'.cell? ⟨wr.heap.size, 2, none⟩ = some (.int .u64 (uv x)))
                    (first | go_keep | exact held4 hb4 (by assumption))
                    (first | (go_at_call 17; refine (rput _ _ _ _ _ HF.out).mono ?_; rintro e w4 ⟨rfl, hb4⟩))
                  obtain ⟨hB4, hz4⟩ : Below w.heap.size w w4 ∧ w.heap.size ≤ w4.heap.size := ⟨(hB3.drew).trans (hb4.mono (by simp; omega)), by have := hb4.size; simp at this; omega⟩
                  clear hb4 hS3 hB3 hz3
                  go_wp2_with (go_at_call 10; refine (num_any _ _).mono ?_; rintro e w5 ⟨rfl, rfl⟩)
                  go_roundw
                  case rel => exact ⟨m + 1, by omega, by omega, by go_num, hB4, hz4⟩
                  case measure => simp [intOf]; omega
                · have HA := Lib.hid hA
                  clear hA
                  go_wp2_with fail
                  go_region_held3 (fun w' => w'.cell? ⟨b, off + k * 4, none⟩ = some (.int .u64 (uv V)) ∧ w'.cell? ⟨wr.heap.size, 0, none⟩ = some (.int .i64 a) ∧ w'.cell? ⟨wr.heap.size, 1, none⟩ = some (.int .i64 n) ∧ w'.cell? ⟨wr.heap.size, 2, none⟩ = some (.int .u64 (uv x)))
                    (first | go_keep | exact held4 hb2 (by assumption))
                    (first | (go_at_call 15; refine (put_no _ _ _ _ _ HA.out).mono ?_; rintro e w2 ⟨rfl, hb2⟩))
                  have hS2 : w2.cell? ⟨b, off + k * 4, none⟩ = some (.int .u64 (uv V)) ∧ w2.cell? ⟨wr.heap.size, 0, none⟩ = some (.int .i64 a) ∧ w2.cell? ⟨wr.heap.size, 1, none⟩ = some (.int .i64 n) ∧ w2.cell? ⟨wr.heap.size, 2, none⟩ = some (.int .u64 (uv x)) := by assumption
                  obtain ⟨hB2, hz2⟩ : Below w.heap.size w w2 ∧ w.heap.size ≤ w2.heap.size := ⟨((hB.alloc hz _).drew).trans (hb2.mono (by simp; omega)), by have := hb2.size; simp at this; omega⟩
                  clear d0 d1 g0 g1 g2 hB hz hb2
                  go_wp2_with (first | (go_at_call 16; refine (rfield_no _ _ _ _ HA.out).mono ?_; rintro e w3 ⟨rfl, hb3⟩; obtain ⟨hB3, hz3⟩ := below_next hB2 hz2 hb3; clear hb3 hS2 hB2 hz2) | (go_at_call 10; refine (num_any _ _).mono ?_; rintro e w5 ⟨rfl, rfl⟩))
                  go_roundw
                  case rel => exact ⟨m + 1, by omega, by omega, by go_num, hB3, hz3⟩
                  case measure => simp [intOf]; omega
              · go_wp2
                go_roundw
                case rel => exact ⟨k + 1, by omega, by omega, by go_num, hB, hz⟩
                case measure => simp [intOf]; omega
            · go_wp2
              go_roundw
              case rel => exact ⟨k + 1, by omega, by omega, by go_num, hB, hz⟩
              case measure => simp [intOf]; omega
      · clear hc hp
        go_wp2_with (go_at_call 13; refine (wakes_1 _).mono ?_; rintro e w1 ⟨rfl, hb1⟩)
        go_ret
        exact ⟨rfl, hB.trans (hb1.mono hz)⟩
    · clear hc hp
      go_wp2_with (go_at_call 13; refine (wakes_1 _).mono ?_; rintro e w1 ⟨rfl, hb1⟩)
      go_ret
      exact ⟨rfl, hB.trans (hb1.mono hz)⟩
end Go.Proofs.Ytanndkcelgijoaa
