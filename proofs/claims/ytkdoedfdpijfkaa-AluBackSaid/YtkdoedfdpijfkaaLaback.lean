/- AluBack: the walk. -/
import Derived.Test.YtkdoedfdpijfkaaL12a
namespace Go.Proofs.Ytkdoedfdpijfkaa
open Go.RowKit
attribute [local go_sem] uv_and uv_or uv_xor uv_andNot uv_shr uv_shl uv_add uv_sub uv_neg uv_beq uv_beq0 uv_beq1 uv_bne0 u64_signed uv_not sv_i64 sv_shr uv_sv ones_shr

theorem and_or_sum (n m : BitVec 64) : (n &&& m) + (n ||| m) = n + m := by
  have h1 : n ||| m = n + (~~~n &&& m) := by
    rw [BitVec.add_eq_or_of_and_eq_zero]
    · apply BitVec.eq_of_getLsbD_eq; intro i hi
      simp only [BitVec.getLsbD_or, BitVec.getLsbD_and, BitVec.getLsbD_not]
      cases n.getLsbD i <;> cases m.getLsbD i <;> simp [hi]
    · apply BitVec.eq_of_getLsbD_eq; intro i hi
      simp only [BitVec.getLsbD_and, BitVec.getLsbD_not]
      cases n.getLsbD i <;> cases m.getLsbD i <;> simp
  have h2 : m = (n &&& m) + (~~~n &&& m) := by
    rw [BitVec.add_eq_or_of_and_eq_zero]
    · apply BitVec.eq_of_getLsbD_eq; intro i hi
      simp only [BitVec.getLsbD_or, BitVec.getLsbD_and, BitVec.getLsbD_not]
      cases n.getLsbD i <;> cases m.getLsbD i <;> simp [hi]
    · apply BitVec.eq_of_getLsbD_eq; intro i hi
      simp only [BitVec.getLsbD_and, BitVec.getLsbD_not]
      cases n.getLsbD i <;> cases m.getLsbD i <;> simp
  rw [h1]
  calc (n &&& m) + (n + (~~~n &&& m)) = n + ((n &&& m) + (~~~n &&& m)) := by rw [← BitVec.add_assoc, BitVec.add_comm (n &&& m) n, BitVec.add_assoc]
    _ = n + m := by rw [← h2]
theorem or_and_xor (n m : BitVec 64) : (n ||| m) - (n &&& m) = n ^^^ m := by
  have h1 : n ||| m = (n ^^^ m) + (n &&& m) := by
    rw [BitVec.add_eq_or_of_and_eq_zero]
    · apply BitVec.eq_of_getLsbD_eq; intro i hi
      simp only [BitVec.getLsbD_or, BitVec.getLsbD_and, BitVec.getLsbD_xor]
      cases n.getLsbD i <;> cases m.getLsbD i <;> simp
    · apply BitVec.eq_of_getLsbD_eq; intro i hi
      simp only [BitVec.getLsbD_and, BitVec.getLsbD_xor]
      cases n.getLsbD i <;> cases m.getLsbD i <;> simp
  rw [h1, BitVec.add_sub_cancel]
theorem add_back (n m i : BitVec 64) : n + m + i - m - i = n := by
  apply BitVec.eq_of_toNat_eq
  simp only [BitVec.toNat_sub, BitVec.toNat_add]
  have h1 := n.isLt
  have h2 := m.isLt
  have h3 := i.isLt
  omega

set_option maxRecDepth 100000 in
set_option maxHeartbeats 8000000 in
theorem aback_walk (pa : Option Addr) (b off len cap : Nat) (w : World) (hp : 0 < len → pa = some ⟨b, off, none⟩)
    (hc : ∀ i, i < len → ∃ o d n m imm N M p l c, AskAt w b (off + i * 8) o d n m imm N M p l c) :
    Calls Try.prog 4 #[.slice pa len cap] w fun e w' => e = .returned (.bool true) ∧ Below w.heap.size w w' := by
  have HP := Lib.hid hp
  have HC := Lib.hid hc
  clear hp hc
  go_enter Try.func4, Try.ntmps4
  go_wp2
  go_loopw [3] (fun i wr => ∃ k : Nat, k ≤ len ∧ k ≤ 15 ∧ i = .int .i64 k ∧ Below w.heap.size w wr ∧ w.heap.size ≤ wr.heap.size) (fun i _ => 15 - (intOf i).toNat)
  case atStart => exact ⟨0, Nat.zero_le _, Nat.zero_le _, rfl, Below.refl _ _, Nat.le_refl _⟩
  case round =>
    obtain ⟨k, hk, hk15, rfl, hB, hz⟩ := hrel
    have hp := HP.out
    have hc := HC.out
    clear HP HC
    by_cases hlt : k < len
    · by_cases hlt15 : k < 15
      · obtain ⟨o, d, n, m, imm, N, M, p, l, c, e0, e1, e2, e3, e4, e5, e6, e7⟩ := hc k hlt
        obtain rfl := hp (by omega)
        have hbl := World.block_lt_of_cell? _ _ e0
        have d4 := (hB.cell (p := ⟨b, off + k * 8 + 4, none⟩) hbl).trans e4
        have d5 := (hB.cell (p := ⟨b, off + k * 8 + 5, none⟩) hbl).trans e5
        have d6 := (hB.cell (p := ⟨b, off + k * 8 + 6, none⟩) hbl).trans e6
        have k0 : (0 : Int) ≤ (k : Int) := Int.natCast_nonneg _
        have k1 : (k : Int) < (len : Int) := by omega
        clear hc hp e0 e1 e2 e3 e4 e5 e6 e7
        have hI : ∃ I : Int, (-2048 ≤ I ∧ I ≤ 2047) ∧ ((-2048 ≤ imm ∧ imm ≤ 2047 ∧ I = imm) ∨ (imm < -2048 ∧ I = 7) ∨ (-2048 ≤ imm ∧ 2047 < imm ∧ I = 7)) := by
          by_cases a1 : imm < -2048
          · exact ⟨7, by omega, by omega⟩
          · by_cases a2 : 2047 < imm
            · exact ⟨7, by omega, by omega⟩
            · exact ⟨imm, by omega, by omega⟩
        obtain ⟨I, ⟨i1, i2⟩, hI⟩ := hI
        have G1 := Lib.hid (show doB 3 I (doB 2 I N M) M = N from add_back N M (BitVec.ofInt 64 I))
        have G2 := Lib.hid (show doB 6 0 (doB 6 0 N M) M = N from by show N ^^^ M ^^^ M = N; rw [BitVec.xor_assoc, BitVec.xor_self, BitVec.xor_zero])
        have G3 := Lib.hid (show doB 4 0 N M + doB 5 0 N M = N + M from and_or_sum N M)
        have G4 := Lib.hid (show doB 5 0 N M - doB 4 0 N M = doB 6 0 N M from or_and_xor N M)
        rcases hI with ⟨a1, a2, rfl⟩ | ⟨a1, rfl⟩ | ⟨a1, a2, rfl⟩
        all_goals
          go_wp2_with fail
          go_quiet (fail)
          have sq : Below w.heap.size w (wr.drewN nq) ∧ w.heap.size ≤ (wr.drewN nq).heap.size := ⟨below_drewN hB _, by simpa using hz⟩
          go_wp2_with fail
          refine (do_yes _ _ _ _ _ _ _ _ (may_plain 2 _ (by omega) (by omega) (by omega) (by omega))).mono ?_
          rintro e w1 ⟨rfl, hb1⟩
          clear d4 d5 d6
          have s1 := below_next sq.1 sq.2 hb1
          clear hb1 sq hB hz
          go_wp2_with fail
          refine (do_yes _ _ _ _ _ _ _ _ (may_plain 3 _ (by omega) (by omega) (by omega) (by omega))).mono ?_
          rintro e w2 ⟨rfl, hb2⟩
          have s2 := below_next s1.1 s1.2 hb2
          clear hb2 s1
          go_wp2_with fail
          refine (do_yes _ _ _ _ _ _ _ _ (may_plain 6 0 (by omega) (by omega) (by omega) (by omega))).mono ?_
          rintro e w3 ⟨rfl, hb3⟩
          have s3 := below_next s2.1 s2.2 hb3
          clear hb3 s2
          go_wp2_with fail
          refine (do_yes _ _ _ _ _ _ _ _ (may_plain 6 0 (by omega) (by omega) (by omega) (by omega))).mono ?_
          rintro e w4 ⟨rfl, hb4⟩
          have s4 := below_next s3.1 s3.2 hb4
          clear hb4 s3
          go_wp2_with fail
          refine (do_yes _ _ _ _ _ _ _ _ (may_plain 4 0 (by omega) (by omega) (by omega) (by omega))).mono ?_
          rintro e w5 ⟨rfl, hb5⟩
          have s5 := below_next s4.1 s4.2 hb5
          clear hb5 s4
          go_wp2_with fail
          refine (do_yes _ _ _ _ _ _ _ _ (may_plain 5 0 (by omega) (by omega) (by omega) (by omega))).mono ?_
          rintro e w6 ⟨rfl, hb6⟩
          have s6 := below_next s5.1 s5.2 hb6
          clear hb6 s5
          have g1 := G1.out
          have g2 := G2.out
          have g3 := G3.out
          have g4 := G4.out
          go_wp2_with (go_at_call 14; refine (num_any _ _).mono ?_; rintro e w7 ⟨rfl, rfl⟩)
          go_roundw
          case rel => exact ⟨k + 1, by omega, by omega, by go_num, s6.1, s6.2⟩
          case measure => simp [intOf]; omega
      · clear hc hp
        go_wp2_with (go_at_call 16; refine (wakes_1 _).mono ?_; rintro e w1 ⟨rfl, hb1⟩)
        go_ret
        exact ⟨rfl, hB.trans (hb1.mono hz)⟩
    · clear hc hp
      go_wp2_with (go_at_call 16; refine (wakes_1 _).mono ?_; rintro e w1 ⟨rfl, hb1⟩)
      go_ret
      exact ⟨rfl, hB.trans (hb1.mono hz)⟩
end Go.Proofs.Ytkdoedfdpijfkaa
