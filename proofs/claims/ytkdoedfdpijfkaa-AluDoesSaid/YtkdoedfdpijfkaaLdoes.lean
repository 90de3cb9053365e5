/- The contracts of the reference's reckoning: MayDo, Do; AluDoes: the walk. -/
import Derived.Test.YtkdoedfdpijfkaaL12a
import Derived.Test.YtkdoedfdpijfkaaRins
namespace Go.Proofs.Ytkdoedfdpijfkaa
open Go.RowKit
attribute [local go_sem] uv_and uv_or uv_xor uv_andNot uv_shr uv_shl uv_add uv_sub uv_neg uv_beq uv_beq0 uv_beq1 uv_bne0 u64_signed uv_not sv_i64 sv_shr uv_sv ones_shr

theorem rinsn_eq (op d n m imm : Int) (b : Bool) (w : World) (h : okI op d n m imm = b) :
    Calls Try.prog 19 #[.agg #[.int .i64 op, .int .i64 d, .int .i64 n, .int .i64 m, .int .i64 imm]] w fun e w' => e = .returned (.bool b) ∧ Below w.heap.size w w' := by
  rw [← h]; exact rinsn_any op d n m imm w
set_option maxHeartbeats 1000000 in
theorem rmaydo (op d n m imm : Int) (w : World) :
    Calls Try.prog 12 #[.agg #[.int .i64 op, .int .i64 d, .int .i64 n, .int .i64 m, .int .i64 imm]] w fun e w' => e = .returned (.bool (mayDoB op d n m imm)) ∧ Below w.heap.size w w' := by
  rcases hk : okI op d n m imm with _ | _
  · have HV := Lib.hid (show mayDoB op d n m imm = false by unfold mayDoB; rw [hk]; rfl)
    have H := Lib.hid hk
    clear hk
    go_enter Try.func12, Try.ntmps12
    go_wp2_with (go_at_call 19; refine (rinsn_eq _ _ _ _ _ _ _ H.out).mono ?_; rintro e w1 ⟨rfl, hb1⟩)
    go_ret
    exact ⟨by rw [HV.out]; rfl, ((Below.refl _ _).alloc (Nat.le_refl _) _).trans (hb1.mono (by simp))⟩
  · have HV := Lib.hid (show mayDoB op d n m imm = decide (op ≤ 6) by unfold mayDoB; rw [hk]; rfl)
    have H := Lib.hid hk
    clear hk
    go_enter Try.func12, Try.ntmps12
    go_wp2_with (go_at_call 19; refine (rinsn_eq _ _ _ _ _ _ _ H.out).mono ?_; rintro e w1 ⟨rfl, hb1⟩; obtain ⟨hc, _⟩ := bcell hb1)
    go_ret
    exact ⟨by rw [HV.out]; rfl, ((Below.refl _ _).alloc (Nat.le_refl _) _).trans (hb1.mono (by simp))⟩
theorem rmaydo_eq (op d n m imm : Int) (b : Bool) (w : World) (h : mayDoB op d n m imm = b) :
    Calls Try.prog 12 #[.agg #[.int .i64 op, .int .i64 d, .int .i64 n, .int .i64 m, .int .i64 imm]] w fun e w' => e = .returned (.bool b) ∧ Below w.heap.size w w' := by
  rw [← h]; exact rmaydo op d n m imm w
set_option maxHeartbeats 2000000 in
theorem rdo (op d n m imm : Int) (x y : BitVec 64) (w : World) (h : mayDoB op d n m imm = true) :
    Calls Try.prog 13 #[.agg #[.int .i64 op, .int .i64 d, .int .i64 n, .int .i64 m, .int .i64 imm], .int .u64 (uv x), .int .u64 (uv y)] w fun e w' => e = .returned (.int .u64 (uv (doB op imm x y))) ∧ Below w.heap.size w w' := by
  unfold mayDoB at h
  rw [Bool.and_eq_true, decide_eq_true_eq] at h
  obtain ⟨h, h6⟩ := h
  have hop := okI_op h
  clear h
  have hI := uv_ofInt imm
  have : op = 1 ∨ op = 2 ∨ op = 3 ∨ op = 4 ∨ op = 5 ∨ op = 6 := by omega
  clear hop h6
  rcases this with rfl | rfl | rfl | rfl | rfl | rfl
  all_goals
    go_enter Try.func13, Try.ntmps13
    go_wp2
    go_ret
    exact ⟨rfl, (Below.refl _ _).alloc (Nat.le_refl _) _⟩

theorem words_later {w wr : World} {p : Option Addr} {fs : List (BitVec 64)} (h : WordsL w p fs) (hb : Below w.heap.size w wr) : WordsL wr p fs := by
  obtain ⟨fb, fo, hp, hf⟩ := h
  exact ⟨fb, fo, hp, fun j x hx => cell_later hb (hf j x hx)⟩
theorem words_drew {w : World} {p : Option Addr} {fs : List (BitVec 64)} (h : WordsL w p fs) : WordsL w.drew p fs := words_later h ((Below.refl _ _).drew)
theorem sum0 (w : World) : Calls Try.prog 15 #[.slice none 0 0] w fun e w' => e = .returned (.int .u64 0) ∧ w = w' :=
  sum_any none 0 0 [] w rfl (by unfold maxLen; omega) ⟨0, 0, fun h => by simp at h, fun j x hx => by simp at hx⟩
theorem sum2 (a b : BitVec 64) (w : World) :
    Calls Try.prog 15 #[.slice (some ⟨w.heap.size, 0, none⟩) 2 2] (w.alloc (.cells #[.int .u64 (uv a), .int .u64 (uv b)] 25)).drew fun e w' => e = .returned (.int .u64 (uv (a + b))) ∧ (w.alloc (.cells #[.int .u64 (uv a), .int .u64 (uv b)] 25)).drew = w' := by
  have h := sum_any (some ⟨w.heap.size, 0, none⟩) 2 2 [a, b] (w.alloc (.cells #[.int .u64 (uv a), .int .u64 (uv b)] 25)).drew rfl (by unfold maxLen; omega)
    (words_drew ⟨w.heap.size, 0, fun _ => rfl, fun j x hx => by
      match j, hx with
      | 0, hx => simp at hx; subst hx; simp [go_sem]
      | 1, hx => simp at hx; subst hx; simp [go_sem]
      | j + 2, hx => simp at hx⟩)
  have e : sumB [a, b] = a + b := by simp [sumB]
  rw [e] at h
  exact h
/-- what the statement was handed, in a block of its own -/
def Eight (w : World) (k : Nat) (op d n m imm : Int) (N M : BitVec 64) (p : Option Addr) (l c : Nat) : Prop := AskAt w k 0 op d n m imm N M p l c
theorem eight_later {W w1 : World} {k : Nat} {op d n m imm : Int} {N M : BitVec 64} {p : Option Addr} {l c : Nat} (h : Eight W k op d n m imm N M p l c) (hb : Below W.heap.size W w1) : Eight w1 k op d n m imm N M p l c := by
  obtain ⟨e0, e1, e2, e3, e4, e5, e6, e7⟩ := h
  exact ⟨cell_later hb e0, cell_later hb e1, cell_later hb e2, cell_later hb e3, cell_later hb e4, cell_later hb e5, cell_later hb e6, cell_later hb e7⟩
theorem eight_new (w : World) (op d n m imm : Int) (N M : BitVec 64) (p : Option Addr) (l c : Nat) (t : TypeId) :
    Eight (w.alloc (.cells #[.int .i64 op, .int .i64 d, .int .i64 n, .int .i64 m, .int .i64 imm, .int .u64 (uv N), .int .u64 (uv M), .slice p l c] t)) w.heap.size op d n m imm N M p l c := by
  refine ⟨?_, ?_, ?_, ?_, ?_, ?_, ?_, ?_⟩ <;> simp [go_sem]
theorem five_new {w w1 : World} {x y z u v : Value} {t : TypeId} (hb : Below (w.alloc (.cells #[x, y, z, u, v] t)).heap.size (w.alloc (.cells #[x, y, z, u, v] t)) w1) :
    w1.cell? ⟨w.heap.size, 0, none⟩ = some x ∧ w1.cell? ⟨w.heap.size, 1, none⟩ = some y ∧ w1.cell? ⟨w.heap.size, 2, none⟩ = some z ∧ w1.cell? ⟨w.heap.size, 3, none⟩ = some u ∧ w1.cell? ⟨w.heap.size, 4, none⟩ = some v := by
  refine ⟨?_, ?_, ?_, ?_, ?_⟩ <;> (rw [hb.cell (by simp)]; simp [go_sem])

set_option maxRecDepth 100000 in
set_option maxHeartbeats 16000000 in
theorem does_walk (pa : Option Addr) (b off len cap : Nat) (w : World) (hp : 0 < len → pa = some ⟨b, off, none⟩)
    (hc : ∀ i, i < len → ∃ o d n m imm N M p l c, AskAt w b (off + i * 8) o d n m imm N M p l c ∧ (∃ fs, fs.length = l ∧ WordsL w p fs) ∧ l ≤ maxLen) :
    Calls Try.prog 3 #[.slice pa len cap] w fun e w' => e = .returned (.bool true) ∧ Below w.heap.size w w' := by
  have HP := Lib.hid hp
  have HC := Lib.hid hc
  clear hp hc
  go_enter Try.func3, Try.ntmps3
  go_wp2
  go_loopw [3] (fun i wr => ∃ k : Nat, k ≤ len ∧ k ≤ 15 ∧ i = .int .i64 k ∧ Below w.heap.size w wr ∧ w.heap.size ≤ wr.heap.size) (fun i _ => 15 - (intOf i).toNat)
  case atStart => exact ⟨0, Nat.zero_le _, Nat.zero_le _, rfl, Below.refl _ _, Nat.le_refl _⟩
  case round =>
    obtain ⟨k, hk, hk15, rfl, hB, hz⟩ := hrel
    have hp := HP.out
    have hc := HC.out
    clear HP HC
    by_cases hlt : k < len
    · by_cases hlt15 : k < 15
      · obtain ⟨o, d, n, m, imm, N, M, p, l, c, hA, ⟨fs, hfl, hfs⟩, hlm⟩ := hc k hlt
        obtain rfl := hp (by omega)
        obtain ⟨e0, e1, e2, e3, e4, e5, e6, e7⟩ := hA
        have hbl := World.block_lt_of_cell? _ _ e0
        have d0 := (hB.cell (p := ⟨b, off + k * 8, none⟩) hbl).trans e0
        have d1 := (hB.cell (p := ⟨b, off + k * 8 + 1, none⟩) hbl).trans e1
        have d2 := (hB.cell (p := ⟨b, off + k * 8 + 2, none⟩) hbl).trans e2
        have d3 := (hB.cell (p := ⟨b, off + k * 8 + 3, none⟩) hbl).trans e3
        have d4 := (hB.cell (p := ⟨b, off + k * 8 + 4, none⟩) hbl).trans e4
        have d5 := (hB.cell (p := ⟨b, off + k * 8 + 5, none⟩) hbl).trans e5
        have d6 := (hB.cell (p := ⟨b, off + k * 8 + 6, none⟩) hbl).trans e6
        have d7 := (hB.cell (p := ⟨b, off + k * 8 + 7, none⟩) hbl).trans e7
        have HW := Lib.hid hfs
        have HFL := Lib.hid hfl
        have HLM := Lib.hid hlm
        clear hc hp e0 e1 e2 e3 e4 e5 e6 e7 hfs hfl hlm
        by_cases h5 : 500 < l
        · have hd : decide ((500 : Int) < l) = true := by rw [decide_eq_true_eq]; omega
          go_wp2
          go_ret
          exact ⟨rfl, hB.alloc hz _⟩
        · have hd : decide ((500 : Int) < l) = false := by rw [decide_eq_false_iff_not]; omega
          have E0 := eight_new wr o d n m imm N M p l c 28
          go_wp2
          obtain ⟨wo, rfl⟩ : ∃ wo : World, wo = wr := ⟨_, rfl⟩
          go_loopw [5] (fun j w2 => ∃ q : Nat, q ≤ 18 ∧ j = .int .i64 q ∧ (Below w.heap.size w w2 ∧ w.heap.size ≤ w2.heap.size) ∧ Eight w2 wo.heap.size o d n m imm N M p l c) (fun j _ => 18 - (intOf j).toNat)
          case atStart => exact ⟨0, Nat.zero_le _, rfl, ⟨hB.alloc hz _, by simp; omega⟩, E0⟩
          case round =>
            obtain ⟨q, hq, rfl, s2, E2⟩ := hrel
            by_cases hq18 : q < 18
            · rcases hX : mayDoB q d n m imm with _ | _
              ·
                have HX := Lib.hid hX
                clear hX
                obtain ⟨c0, c1, c2, c3, c4, c5, c6, c7⟩ := id E2
                have bl := World.block_lt_of_cell? _ _ c0
                simp only [Nat.zero_add] at c1 c2 c3 c4 c5 c6 c7
                go_wp2_with fail
                refine (do_no _ _ _ _ _ _ _ _ HX.out).mono ?_
                rintro e w3 ⟨rfl, hb3⟩
                clear bl c0 c1 c2 c3 c4 c5 c6 c7
                have E3 := eight_later (eight_later E2 ((Below.refl _ _).alloc (Nat.le_refl _) _)) hb3
                have F3 := five_new hb3
                have s3 := below_new s2.1 s2.2 hb3
                clear E2 s2 hb3
                obtain ⟨f0, f1, f2, f3, f4⟩ := id F3
                go_wp2_with fail
                refine (rmaydo_eq _ _ _ _ _ _ _ HX.out).mono ?_
                rintro e w4 ⟨rfl, hb4⟩
                clear f0 f1 f2 f3 f4
                have E4 := eight_later E3 hb4
                obtain ⟨f0, f1, f2, f3, f4⟩ := F3
                have f0 := cell_later hb4 f0
                have f1 := cell_later hb4 f1
                have f2 := cell_later hb4 f2
                have f3 := cell_later hb4 f3
                have f4 := cell_later hb4 f4
                have s4 := below_next s3.1 s3.2 hb4
                clear E3 s3 hb4
                go_wp2_with (go_at_call 14; refine (num_any _ _).mono ?_; rintro e w7 ⟨rfl, rfl⟩)
                go_roundw
                case rel => exact ⟨q + 1, by omega, by go_num, s4, E4⟩
                case measure => simp [intOf]; omega
              ·
                have HX := Lib.hid hX
                clear hX
                obtain ⟨c0, c1, c2, c3, c4, c5, c6, c7⟩ := id E2
                have bl := World.block_lt_of_cell? _ _ c0
                simp only [Nat.zero_add] at c1 c2 c3 c4 c5 c6 c7
                go_wp2_with fail
                refine (do_yes _ _ _ _ _ _ _ _ HX.out).mono ?_
                rintro e w3 ⟨rfl, hb3⟩
                clear bl c0 c1 c2 c3 c4 c5 c6 c7
                have E3 := eight_later (eight_later E2 ((Below.refl _ _).alloc (Nat.le_refl _) _)) hb3
                have F3 := five_new hb3
                have s3 := below_new s2.1 s2.2 hb3
                clear E2 s2 hb3
                obtain ⟨f0, f1, f2, f3, f4⟩ := id F3
                go_wp2_with fail
                refine (rmaydo_eq _ _ _ _ _ _ _ HX.out).mono ?_
                rintro e w4 ⟨rfl, hb4⟩
                clear f0 f1 f2 f3 f4
                have E4 := eight_later E3 hb4
                obtain ⟨f0, f1, f2, f3, f4⟩ := F3
                have f0 := cell_later hb4 f0
                have f1 := cell_later hb4 f1
                have f2 := cell_later hb4 f2
                have f3 := cell_later hb4 f3
                have f4 := cell_later hb4 f4
                have s4 := below_next s3.1 s3.2 hb4
                clear E3 s3 hb4
                obtain ⟨c0, c1, c2, c3, c4, c5, c6, c7⟩ := id E4
                simp only [Nat.zero_add] at c1 c2 c3 c4 c5 c6 c7
                go_wp2_with fail
                refine (rdo _ _ _ _ _ _ _ _ HX.out).mono ?_
                rintro e w5 ⟨rfl, hb5⟩
                clear c0 c1 c2 c3 c4 c5 c6 c7
                have E5 := eight_later E4 hb5
                have s5 := below_next s4.1 s4.2 hb5
                clear E4 s4 hb5
                go_wp2_with (go_at_call 14; refine (num_any _ _).mono ?_; rintro e w7 ⟨rfl, rfl⟩)
                go_roundw
                case rel => exact ⟨q + 1, by omega, by go_num, s5, E5⟩
                case measure => simp [intOf]; omega
            · obtain ⟨c0, c1, c2, c3, c4, c5, c6, c7⟩ := id E2
              simp only [Nat.zero_add] at c1 c2 c3 c4 c5 c6 c7
              have HW2 := Lib.hid (words_later HW.out s2.1)
              have hfl := HFL.out
              go_wp2
              go_loop [11, 12] (fun v j => ∃ r : Nat, r ≤ l ∧ j = .int .i64 r ∧ v = .int .u64 (uv (sumB (fs.take r)))) (fun _ j => l - (intOf j).toNat)
              case atStart => exact ⟨0, Nat.zero_le _, rfl, rfl⟩
              case round =>
                obtain ⟨r, hr, rfl, rfl⟩ := hrel
                by_cases hrl : r < l
                · obtain ⟨fb, fo, hpp, hff⟩ := HW2.out
                  obtain ⟨y, hy⟩ : ∃ y, fs[r]? = some y := ⟨_, List.getElem?_eq_getElem (by omega)⟩
                  obtain rfl := hpp (by omega)
                  have e0 := hff r y hy
                  have HY := Lib.hid hy
                  clear hff hpp hy
                  go_wp2
                  go_round
                  case rel => exact ⟨r + 1, by omega, by go_num, by rw [take_snoc' HY.out, sumB_snoc]⟩
                  case measure => simp [intOf]; omega
                · have hall : fs.take r = fs := List.take_of_length_le (by omega)
                  rw [hall]
                  clear hall hfl
                  go_wp2
                  go_region_held3 (fun w' => w'.cell? ⟨wo.heap.size, 5, none⟩ = some (.int .u64 (uv N)) ∧ w'.cell? ⟨wo.heap.size, 6, none⟩ = some (.int .u64 (uv M)) ∧ w'.cell? ⟨wo.heap.size, 7, none⟩ = some (.slice p l c))
                    (first | go_keep | assumption | exact held3 ((Below.refl _ _).alloc (Nat.le_refl _) _) (by assumption))
                    (first | (go_at_call 15; first | (with_reducible refine (sum_any _ _ _ fs _ HFL.out HLM.out (words_drew HW2.out)).mono ?_) | (with_reducible refine (sum2 _ _ _).mono ?_) | (with_reducible refine (sum0 _).mono ?_)
                              rintro e w9 ⟨rfl, rfl⟩))
                  go_wp2
                  go_roundw
                  case rel => exact ⟨k + 1, by omega, by omega, by go_num, (s2.1.alloc s2.2 _).drew, by have := s2.2; simp; omega⟩
                  case measure => simp [intOf]; omega
      · clear hc hp
        go_wp2_with (go_at_call 16; refine (wakes_1 _).mono ?_; rintro e w1 ⟨rfl, hb1⟩)
        go_ret
        exact ⟨rfl, hB.trans (hb1.mono hz)⟩
    · clear hc hp
      go_wp2_with (go_at_call 16; refine (wakes_1 _).mono ?_; rintro e w1 ⟨rfl, hb1⟩)
      go_ret
      exact ⟨rfl, hB.trans (hb1.mono hz)⟩
end Go.Proofs.Ytkdoedfdpijfkaa
