/- The walk of each: one Op against what is reckoned bit by bit; and of the six statements over it. -/
import Derived.Test.YtkdoedfdpijfkaaL12a
import Derived.Test.YtkdoedfdpijfkaaReck
namespace Go.Proofs.Ytkdoedfdpijfkaa
open Go.RowKit
attribute [local go_sem] uv_and uv_or uv_xor uv_andNot uv_shr uv_shl uv_add uv_sub uv_neg uv_beq uv_beq0 uv_beq1 uv_bne0 u64_signed uv_not sv_i64 sv_shr uv_sv ones_shr

theorem reckon_any (op : Int) (n m : BitVec 64) (imm : Int) (w : World) (h1 : 1 ≤ op) (h6 : op ≤ 6) :
    Calls Try.prog 20 #[.int .i64 op, .int .u64 (uv n), .int .u64 (uv m), .int .i64 imm] w (Drawn (.int .u64 (uv (doB op imm n m))) w) := by
  have : op = 1 ∨ op = 2 ∨ op = 3 ∨ op = 4 ∨ op = 5 ∨ op = 6 := by omega
  rcases this with rfl | rfl | rfl | rfl | rfl | rfl
  · exact reckon_1 n m imm w
  · by_cases h0 : imm = 0
    · subst h0
      have e : doB 2 0 n m = addB n m false := by rw [add_no]; show n + m + 0#64 = _; simp
      rw [e]
      exact reckon_2z n m w
    · have e : doB 2 imm n m = addB (addB n m false) (BitVec.ofInt 64 imm) false := by rw [add_no, add_no]; rfl
      rw [e]
      exact reckon_2n n m imm w h0
  · by_cases h0 : imm = 0
    · subst h0
      have e : doB 3 0 n m = addB n (~~~m) true := by rw [add_sub]; show n - m - 0#64 = _; simp
      rw [e]
      exact reckon_3z n m w
    · have e : doB 3 imm n m = addB (addB n (~~~m) true) (~~~(BitVec.ofInt 64 imm)) true := by rw [add_sub, add_sub]; rfl
      rw [e]
      exact reckon_3n n m imm w h0
  · exact reckon_4 n m imm w
  · exact reckon_5 n m imm w
  · exact reckon_6 n m imm w
theorem quiet_drawn {P : Program} {f : FuncId} {args : Array Value} {w : World} {n : Nat} {v : Value} (h : Calls P f args (w.drewN n) (Drawn v (w.drewN n))) :
    Calls P f args (w.drewN n) fun e w'' => e = .returned v ∧ ∃ m, w'' = w.drewN m :=
  h.mono fun _ _ ⟨he, m, hm⟩ => ⟨he, n + m, by rw [hm, World.drewN_drewN]⟩

set_option maxRecDepth 100000 in
set_option maxHeartbeats 8000000 in
theorem each_walk (op : Int) (h1 : 1 ≤ op) (h6 : op ≤ 6) (pa : Option Addr) (b off len cap : Nat) (w : World) (hp : 0 < len → pa = some ⟨b, off, none⟩)
    (hc : ∀ i, i < len → ∃ o d n m imm N M p l c, AskAt w b (off + i * 8) o d n m imm N M p l c) :
    Calls Try.prog 17 #[.slice pa len cap, .int .i64 op] w fun e w' => e = .returned (.bool true) ∧ Below w.heap.size w w' := by
  have HP := Lib.hid hp
  have HC := Lib.hid hc
  clear hp hc
  go_enter Try.func17, Try.ntmps17
  go_wp2
  go_loopw [5] (fun i wr => ∃ k : Nat, k ≤ len ∧ k ≤ 15 ∧ i = .int .i64 k ∧ Below w.heap.size w wr ∧ w.heap.size ≤ wr.heap.size) (fun i _ => 15 - (intOf i).toNat)
  case atStart => exact ⟨0, Nat.zero_le _, Nat.zero_le _, rfl, Below.refl _ _, Nat.le_refl _⟩
  case round =>
    obtain ⟨k, hk, hk15, rfl, hB, hz⟩ := hrel
    have hp := HP.out
    have hc := HC.out
    clear HP HC
    by_cases hlt : k < len
    · by_cases hlt15 : k < 15
      · obtain ⟨o, d, n, m, imm, N, M, p, l, c, e0, e1, e2, e3, e4, e5, e6, e7⟩ := hc k hlt
        obtain rfl := hp (by omega)
        have hbl := World.block_lt_of_cell? _ _ e0
        have d4 := (hB.cell (p := ⟨b, off + k * 8 + 4, none⟩) hbl).trans e4
        have d5 := (hB.cell (p := ⟨b, off + k * 8 + 5, none⟩) hbl).trans e5
        have d6 := (hB.cell (p := ⟨b, off + k * 8 + 6, none⟩) hbl).trans e6
        have k0 : (0 : Int) ≤ (k : Int) := Int.natCast_nonneg _
        have k1 : (k : Int) < (len : Int) := by omega
        clear hc hp e0 e1 e2 e3 e4 e5 e6 e7
        have hI : ∃ I : Int, (-2048 ≤ I ∧ I ≤ 2047) ∧ ((-2048 ≤ imm ∧ imm ≤ 2047 ∧ I = imm) ∨ (imm < -2048 ∧ I = -5) ∨ (-2048 ≤ imm ∧ 2047 < imm ∧ I = -5)) := by
          by_cases a1 : imm < -2048
          · exact ⟨-5, by omega, by omega⟩
          · by_cases a2 : 2047 < imm
            · exact ⟨-5, by omega, by omega⟩
            · exact ⟨imm, by omega, by omega⟩
        obtain ⟨I, ⟨i1, i2⟩, hI⟩ := hI
        have HM := Lib.hid (may_plain op I h1 h6 i1 i2)
        rcases hI with ⟨a1, a2, rfl⟩ | ⟨a1, rfl⟩ | ⟨a1, a2, rfl⟩
        all_goals
          go_wp2_with fail
          go_region_held3 (fun w' => w'.cell? ⟨b, off + k * 8 + 5, none⟩ = some (.int .u64 (uv N)) ∧ w'.cell? ⟨b, off + k * 8 + 6, none⟩ = some (.int .u64 (uv M)))
            (first | go_keep | exact held2 hb2 (by assumption))
            (first | (go_at_call 11; refine (do_yes _ _ _ _ _ _ _ _ HM.out).mono ?_; rintro e w2 ⟨rfl, hb2⟩))
          have hS2 : w2.cell? ⟨b, off + k * 8 + 5, none⟩ = some (.int .u64 (uv N)) ∧ w2.cell? ⟨b, off + k * 8 + 6, none⟩ = some (.int .u64 (uv M)) := by assumption
          obtain ⟨hB2, hz2⟩ : Below w.heap.size w w2 ∧ w.heap.size ≤ w2.heap.size := ⟨hB.drew.trans (hb2.mono (by simp; omega)), by have := hb2.size; simp at this; omega⟩
          clear d4 d5 d6 hB hz hb2
          obtain ⟨c5, c6⟩ := hS2
          go_wp2_with fail
          go_quiet ((first | (go_at_call 14; exact quiet_left (num_any _ _)) | (go_at_call 20; exact quiet_drawn (reckon_any _ _ _ _ _ h1 h6))))
          go_wp2
          go_roundw
          case rel => exact ⟨k + 1, by omega, by omega, by go_num, below_drewN hB2 _, hz2⟩
          case measure => simp [intOf]; omega
      · clear hc hp
        go_wp2_with (go_at_call 16; refine (wakes_1 _).mono ?_; rintro e w1 ⟨rfl, hb1⟩)
        go_ret
        exact ⟨rfl, hB.trans (hb1.mono hz)⟩
    · clear hc hp
      go_wp2_with (go_at_call 16; refine (wakes_1 _).mono ?_; rintro e w1 ⟨rfl, hb1⟩)
      go_ret
      exact ⟨rfl, hB.trans (hb1.mono hz)⟩

theorem moves_walk (pa : Option Addr) (b off len cap : Nat) (w : World) (hp : 0 < len → pa = some ⟨b, off, none⟩)
    (hc : ∀ i, i < len → ∃ o d n m imm N M p l c, AskAt w b (off + i * 8) o d n m imm N M p l c) :
    Calls Try.prog 5 #[.slice pa len cap] w fun e w' => e = .returned (.bool true) ∧ Below w.heap.size w w' := by
  have H := Lib.hid (each_walk 1 (by omega) (by omega) pa b off len cap w hp hc)
  clear hp hc
  go_enter Try.func5, Try.ntmps5
  go_wp2_with (go_at_call 17; refine H.out.mono ?_; rintro e w1 ⟨rfl, hb1⟩)
  go_ret
  exact ⟨rfl, hb1⟩

theorem adds_walk (pa : Option Addr) (b off len cap : Nat) (w : World) (hp : 0 < len → pa = some ⟨b, off, none⟩)
    (hc : ∀ i, i < len → ∃ o d n m imm N M p l c, AskAt w b (off + i * 8) o d n m imm N M p l c) :
    Calls Try.prog 6 #[.slice pa len cap] w fun e w' => e = .returned (.bool true) ∧ Below w.heap.size w w' := by
  have H := Lib.hid (each_walk 2 (by omega) (by omega) pa b off len cap w hp hc)
  clear hp hc
  go_enter Try.func6, Try.ntmps6
  go_wp2_with (go_at_call 17; refine H.out.mono ?_; rintro e w1 ⟨rfl, hb1⟩)
  go_ret
  exact ⟨rfl, hb1⟩

theorem subs_walk (pa : Option Addr) (b off len cap : Nat) (w : World) (hp : 0 < len → pa = some ⟨b, off, none⟩)
    (hc : ∀ i, i < len → ∃ o d n m imm N M p l c, AskAt w b (off + i * 8) o d n m imm N M p l c) :
    Calls Try.prog 7 #[.slice pa len cap] w fun e w' => e = .returned (.bool true) ∧ Below w.heap.size w w' := by
  have H := Lib.hid (each_walk 3 (by omega) (by omega) pa b off len cap w hp hc)
  clear hp hc
  go_enter Try.func7, Try.ntmps7
  go_wp2_with (go_at_call 17; refine H.out.mono ?_; rintro e w1 ⟨rfl, hb1⟩)
  go_ret
  exact ⟨rfl, hb1⟩

theorem ands_walk (pa : Option Addr) (b off len cap : Nat) (w : World) (hp : 0 < len → pa = some ⟨b, off, none⟩)
    (hc : ∀ i, i < len → ∃ o d n m imm N M p l c, AskAt w b (off + i * 8) o d n m imm N M p l c) :
    Calls Try.prog 8 #[.slice pa len cap] w fun e w' => e = .returned (.bool true) ∧ Below w.heap.size w w' := by
  have H := Lib.hid (each_walk 4 (by omega) (by omega) pa b off len cap w hp hc)
  clear hp hc
  go_enter Try.func8, Try.ntmps8
  go_wp2_with (go_at_call 17; refine H.out.mono ?_; rintro e w1 ⟨rfl, hb1⟩)
  go_ret
  exact ⟨rfl, hb1⟩

theorem ors_walk (pa : Option Addr) (b off len cap : Nat) (w : World) (hp : 0 < len → pa = some ⟨b, off, none⟩)
    (hc : ∀ i, i < len → ∃ o d n m imm N M p l c, AskAt w b (off + i * 8) o d n m imm N M p l c) :
    Calls Try.prog 9 #[.slice pa len cap] w fun e w' => e = .returned (.bool true) ∧ Below w.heap.size w w' := by
  have H := Lib.hid (each_walk 5 (by omega) (by omega) pa b off len cap w hp hc)
  clear hp hc
  go_enter Try.func9, Try.ntmps9
  go_wp2_with (go_at_call 17; refine H.out.mono ?_; rintro e w1 ⟨rfl, hb1⟩)
  go_ret
  exact ⟨rfl, hb1⟩

theorem xors_walk (pa : Option Addr) (b off len cap : Nat) (w : World) (hp : 0 < len → pa = some ⟨b, off, none⟩)
    (hc : ∀ i, i < len → ∃ o d n m imm N M p l c, AskAt w b (off + i * 8) o d n m imm N M p l c) :
    Calls Try.prog 10 #[.slice pa len cap] w fun e w' => e = .returned (.bool true) ∧ Below w.heap.size w w' := by
  have H := Lib.hid (each_walk 6 (by omega) (by omega) pa b off len cap w hp hc)
  clear hp hc
  go_enter Try.func10, Try.ntmps10
  go_wp2_with (go_at_call 17; refine H.out.mono ?_; rintro e w1 ⟨rfl, hb1⟩)
  go_ret
  exact ⟨rfl, hb1⟩
end Go.Proofs.Ytkdoedfdpijfkaa
