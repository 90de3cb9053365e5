/- The contracts of alu.Sum and alu.Do and of the reference's Do. -/
import Derived.Test.YtkdoedfdpijfkaaInsn
import Derived.Test.YtkdoedfdpijfkaaH
namespace Go.Proofs.Ytkdoedfdpijfkaa
open Go.RowKit
attribute [local go_sem] uv_and uv_or uv_xor uv_andNot uv_shr uv_shl uv_add uv_sub uv_neg uv_beq uv_beq0 uv_beq1 uv_bne0 u64_signed uv_not sv_i64 sv_shr uv_sv ones_shr

/-- the sum of a row of words -/
def sumB (l : List (BitVec 64)) : BitVec 64 := l.foldl (fun a x => a + x) 0#64
theorem sumB_snoc (l : List (BitVec 64)) (x : BitVec 64) : sumB (l ++ [x]) = sumB l + x := by
  unfold sumB; rw [List.foldl_append]; rfl
theorem take_snoc' {α : Type} {fs : List α} {k : Nat} {f : α} (h : fs[k]? = some f) : fs.take (k + 1) = fs.take k ++ [f] := by
  rw [List.take_add_one, h]; rfl

/-- the words that lie in a row of memory -/
def WordsL (w : World) (p : Option Addr) (fs : List (BitVec 64)) : Prop :=
  ∃ fb fo, (0 < fs.length → p = some ⟨fb, fo, none⟩) ∧ ∀ j x, fs[j]? = some x → w.cell? ⟨fb, fo + j, none⟩ = some (.int .u64 (uv x))

theorem exists_words {α : Type} {P : Nat → α → Prop} (l : Nat) (h : ∀ j, j < l → ∃ f, P j f) : ∃ fs : List α, fs.length = l ∧ ∀ j f, fs[j]? = some f → P j f := by
  induction l with
  | zero => exact ⟨[], rfl, fun j f hf => by simp at hf⟩
  | succ l ih =>
    obtain ⟨fs, hl, hfs⟩ := ih (fun j hj => h j (by omega))
    obtain ⟨f, hf⟩ := h l (by omega)
    refine ⟨fs ++ [f], by simp [hl], fun j g hg => ?_⟩
    by_cases hj : j < l
    · rw [List.getElem?_append_left (by omega)] at hg
      exact hfs j g hg
    · rw [List.getElem?_append_right (by omega)] at hg
      by_cases hj0 : j = l
      · subst hj0
        rw [hl] at hg
        simp at hg
        subst hg
        exact hf
      · have e : (j - fs.length) ≠ 0 := by omega
        rw [List.getElem?_eq_none (by simp; omega)] at hg
        cases hg
set_option maxHeartbeats 1000000 in
theorem sum_any (p : Option Addr) (l c : Nat) (fs : List (BitVec 64)) (w : World) (hl : fs.length = l) (hm : l ≤ maxLen) (hfs : WordsL w p fs) :
    Calls Try.prog 15 #[.slice p l c] w fun e w' => e = .returned (.int .u64 (uv (sumB fs))) ∧ w = w' := by
  obtain ⟨fb, fo, hp, hf⟩ := hfs
  unfold maxLen at hm
  subst hl
  have HP := Lib.hid hp
  have HF := Lib.hid hf
  clear hp hf
  go_enter Try.func15, Try.ntmps15
  go_wp2
  go_loop [3, 8] (fun s i => ∃ k : Nat, k ≤ fs.length ∧ i = .int .i64 k ∧ s = .int .u64 (uv (sumB (fs.take k)))) (fun _ i => fs.length - (intOf i).toNat)
  case atStart => exact ⟨0, Nat.zero_le _, rfl, rfl⟩
  case round =>
    obtain ⟨k, hk, rfl, rfl⟩ := hrel
    by_cases hlt : k < fs.length
    · obtain ⟨x, hkx⟩ : ∃ f, fs[k]? = some f := ⟨_, List.getElem?_eq_getElem hlt⟩
      have e0 := HF.out k x hkx
      obtain rfl := HP.out (by omega)
      have HK := Lib.hid hkx
      clear hkx
      go_wp2
      go_round
      case rel => exact ⟨k + 1, by omega, by go_num, by rw [take_snoc' HK.out, sumB_snoc]⟩
      case measure => simp [intOf]; omega
    · have e : fs.take k = fs := List.take_of_length_le (by omega)
      have HE := Lib.hid e
      clear e
      go_wp2
      go_ret
      exact ⟨by rw [HE.out]; rfl, rfl⟩

/-- what an instruction reckons: its immediate as a word; the sums; bit by bit -/
def doB (op imm : Int) (n m : BitVec 64) : BitVec 64 :=
  if op = 1 then BitVec.ofInt 64 imm else if op = 2 then n + m + BitVec.ofInt 64 imm else if op = 3 then n - m - BitVec.ofInt 64 imm else if op = 4 then n &&& m else if op = 5 then n ||| m else n ^^^ m

set_option maxHeartbeats 1000000 in
theorem do_no1 (op d n m imm : Int) (x y : BitVec 64) (w : World) (h : okI op d n m imm = false) :
    Calls Try.prog 11 #[.agg #[.int .i64 op, .int .i64 d, .int .i64 n, .int .i64 m, .int .i64 imm], .int .u64 (uv x), .int .u64 (uv y)] w fun e w' => e = .returned (.tuple #[.int .u64 0, .int .i64 1]) ∧ Below w.heap.size w w' := by
  have H := Lib.hid h
  clear h
  go_enter Try.func11, Try.ntmps11
  go_wp2_with (go_at_call 18; refine (check_no _ _ _ _ _ _ H.out).mono ?_; rintro e w1 ⟨rfl, hb1⟩)
  go_ret2
  exact ⟨rfl, ((Below.refl _ _).alloc (Nat.le_refl _) _).trans (hb1.mono (by simp))⟩
set_option maxHeartbeats 2000000 in
theorem do_1 (d n m imm : Int) (x y : BitVec 64) (w : World) (h : okI 1 d n m imm = true) :
    Calls Try.prog 11 #[.agg #[.int .i64 1, .int .i64 d, .int .i64 n, .int .i64 m, .int .i64 imm], .int .u64 (uv x), .int .u64 (uv y)] w fun e w' => e = .returned (.tuple #[.int .u64 (uv (doB 1 imm x y)), .int .i64 0]) ∧ Below w.heap.size w w' := by
  have H := Lib.hid h
  have hI := uv_ofInt imm
  clear h
  go_enter Try.func11, Try.ntmps11
  go_wp2_with (go_at_call 18; refine (check_yes _ _ _ _ _ _ H.out).mono ?_; rintro e w1 ⟨rfl, hb1⟩; obtain ⟨hc, _⟩ := bcell hb1)
  go_ret2
  exact ⟨rfl, ((Below.refl _ _).alloc (Nat.le_refl _) _).trans (hb1.mono (by simp))⟩
theorem sum3 (a b c : BitVec 64) (w : World) :
    Calls Try.prog 15 #[.slice (some ⟨w.heap.size, 0, none⟩) 3 3] (w.alloc (.cells #[.int .u64 (uv a), .int .u64 (uv b), .int .u64 (uv c)] 25)) fun e w' => e = .returned (.int .u64 (uv (a + b + c))) ∧ w.alloc (.cells #[.int .u64 (uv a), .int .u64 (uv b), .int .u64 (uv c)] 25) = w' := by
  have h := sum_any (some ⟨w.heap.size, 0, none⟩) 3 3 [a, b, c] (w.alloc (.cells #[.int .u64 (uv a), .int .u64 (uv b), .int .u64 (uv c)] 25)) rfl (by unfold maxLen; omega)
    ⟨w.heap.size, 0, fun _ => rfl, fun j x hx => by
      match j, hx with
      | 0, hx => simp at hx; subst hx; simp [go_sem]
      | 1, hx => simp at hx; subst hx; simp [go_sem]
      | 2, hx => simp at hx; subst hx; simp [go_sem]
      | j + 3, hx => simp at hx⟩
  have e : sumB [a, b, c] = a + b + c := by simp [sumB]
  rw [e] at h
  exact h
set_option maxHeartbeats 2000000 in
theorem do_2 (d n m imm : Int) (x y : BitVec 64) (w : World) (h : okI 2 d n m imm = true) :
    Calls Try.prog 11 #[.agg #[.int .i64 2, .int .i64 d, .int .i64 n, .int .i64 m, .int .i64 imm], .int .u64 (uv x), .int .u64 (uv y)] w fun e w' => e = .returned (.tuple #[.int .u64 (uv (doB 2 imm x y)), .int .i64 0]) ∧ Below w.heap.size w w' := by
  have H := Lib.hid h
  have hI := uv_ofInt imm
  clear h
  go_enter Try.func11, Try.ntmps11
  go_wp2_with (first | (go_at_call 18; refine (check_yes _ _ _ _ _ _ H.out).mono ?_; rintro e w1 ⟨rfl, hb1⟩; obtain ⟨hc, _⟩ := bcell hb1) | (go_at_call 15; refine (sum3 _ _ _ _).mono ?_; rintro e w2 ⟨rfl, rfl⟩))
  go_ret2
  exact ⟨rfl, (((Below.refl _ _).alloc (Nat.le_refl _) _).trans (hb1.mono (by simp))).alloc (by have := hb1.size; simp at this; omega) _⟩
set_option maxHeartbeats 2000000 in
theorem do_3 (d n m imm : Int) (x y : BitVec 64) (w : World) (h : okI 3 d n m imm = true) :
    Calls Try.prog 11 #[.agg #[.int .i64 3, .int .i64 d, .int .i64 n, .int .i64 m, .int .i64 imm], .int .u64 (uv x), .int .u64 (uv y)] w fun e w' => e = .returned (.tuple #[.int .u64 (uv (doB 3 imm x y)), .int .i64 0]) ∧ Below w.heap.size w w' := by
  have H := Lib.hid h
  have hI := uv_ofInt imm
  clear h
  go_enter Try.func11, Try.ntmps11
  go_wp2_with (first | (go_at_call 18; refine (check_yes _ _ _ _ _ _ H.out).mono ?_; rintro e w1 ⟨rfl, hb1⟩; obtain ⟨hc, _⟩ := bcell hb1) | (go_at_call 15; refine (sum3 _ _ _ _).mono ?_; rintro e w2 ⟨rfl, rfl⟩))
  go_ret2
  exact ⟨by rw [show doB 3 imm x y = x + -y + -BitVec.ofInt 64 imm from by show x - y - _ = _; simp [BitVec.sub_eq_add_neg]]; rfl, (((Below.refl _ _).alloc (Nat.le_refl _) _).trans (hb1.mono (by simp))).alloc (by have := hb1.size; simp at this; omega) _⟩
set_option maxHeartbeats 2000000 in
theorem do_4 (d n m imm : Int) (x y : BitVec 64) (w : World) (h : okI 4 d n m imm = true) :
    Calls Try.prog 11 #[.agg #[.int .i64 4, .int .i64 d, .int .i64 n, .int .i64 m, .int .i64 imm], .int .u64 (uv x), .int .u64 (uv y)] w fun e w' => e = .returned (.tuple #[.int .u64 (uv (doB 4 imm x y)), .int .i64 0]) ∧ Below w.heap.size w w' := by
  have H := Lib.hid h
  have hI := uv_ofInt imm
  clear h
  go_enter Try.func11, Try.ntmps11
  go_wp2_with (first | (go_at_call 18; refine (check_yes _ _ _ _ _ _ H.out).mono ?_; rintro e w1 ⟨rfl, hb1⟩; obtain ⟨hc, _⟩ := bcell hb1))
  go_ret2
  exact ⟨rfl, ((Below.refl _ _).alloc (Nat.le_refl _) _).trans (hb1.mono (by simp))⟩
set_option maxHeartbeats 2000000 in
theorem do_5 (d n m imm : Int) (x y : BitVec 64) (w : World) (h : okI 5 d n m imm = true) :
    Calls Try.prog 11 #[.agg #[.int .i64 5, .int .i64 d, .int .i64 n, .int .i64 m, .int .i64 imm], .int .u64 (uv x), .int .u64 (uv y)] w fun e w' => e = .returned (.tuple #[.int .u64 (uv (doB 5 imm x y)), .int .i64 0]) ∧ Below w.heap.size w w' := by
  have H := Lib.hid h
  have hI := uv_ofInt imm
  clear h
  go_enter Try.func11, Try.ntmps11
  go_wp2_with (first | (go_at_call 18; refine (check_yes _ _ _ _ _ _ H.out).mono ?_; rintro e w1 ⟨rfl, hb1⟩; obtain ⟨hc, _⟩ := bcell hb1))
  go_ret2
  exact ⟨rfl, ((Below.refl _ _).alloc (Nat.le_refl _) _).trans (hb1.mono (by simp))⟩
set_option maxHeartbeats 2000000 in
theorem do_6 (d n m imm : Int) (x y : BitVec 64) (w : World) (h : okI 6 d n m imm = true) :
    Calls Try.prog 11 #[.agg #[.int .i64 6, .int .i64 d, .int .i64 n, .int .i64 m, .int .i64 imm], .int .u64 (uv x), .int .u64 (uv y)] w fun e w' => e = .returned (.tuple #[.int .u64 (uv (doB 6 imm x y)), .int .i64 0]) ∧ Below w.heap.size w w' := by
  have H := Lib.hid h
  have hI := uv_ofInt imm
  clear h
  go_enter Try.func11, Try.ntmps11
  go_wp2_with (first | (go_at_call 18; refine (check_yes _ _ _ _ _ _ H.out).mono ?_; rintro e w1 ⟨rfl, hb1⟩; obtain ⟨hc, _⟩ := bcell hb1))
  go_ret2
  exact ⟨rfl, ((Below.refl _ _).alloc (Nat.le_refl _) _).trans (hb1.mono (by simp))⟩
set_option maxHeartbeats 2000000 in
theorem do_no2 (op d n m imm : Int) (x y : BitVec 64) (w : World) (h : okI op d n m imm = true) (h6 : 6 < op) :
    Calls Try.prog 11 #[.agg #[.int .i64 op, .int .i64 d, .int .i64 n, .int .i64 m, .int .i64 imm], .int .u64 (uv x), .int .u64 (uv y)] w fun e w' => e = .returned (.tuple #[.int .u64 0, .int .i64 1]) ∧ Below w.heap.size w w' := by
  have H := Lib.hid h
  have k1 : (op == 1) = false := by rw [beq_eq_false_iff_ne]; omega
  have k2 : (op == 2) = false := by rw [beq_eq_false_iff_ne]; omega
  have k3 : (op == 3) = false := by rw [beq_eq_false_iff_ne]; omega
  have k4 : (op == 4) = false := by rw [beq_eq_false_iff_ne]; omega
  have k5 : (op == 5) = false := by rw [beq_eq_false_iff_ne]; omega
  have k6 : (op == 6) = false := by rw [beq_eq_false_iff_ne]; omega
  clear h
  go_enter Try.func11, Try.ntmps11
  go_wp2_with (go_at_call 18; refine (check_yes _ _ _ _ _ _ H.out).mono ?_; rintro e w1 ⟨rfl, hb1⟩; obtain ⟨hc, _⟩ := bcell hb1)
  go_ret2
  exact ⟨rfl, ((Below.refl _ _).alloc (Nat.le_refl _) _).trans (hb1.mono (by simp))⟩
/-- may it reckon? -/
def mayDoB (op d n m imm : Int) : Bool := okI op d n m imm && decide (op ≤ 6)
theorem okI_op {op d n m imm : Int} (h : okI op d n m imm = true) : 1 ≤ op ∧ op ≤ 16 := by
  unfold okI at h
  simp only [Bool.and_eq_true] at h
  exact btw_of_yes h.1.1.1.1.1
theorem do_yes (op d n m imm : Int) (x y : BitVec 64) (w : World) (h : mayDoB op d n m imm = true) :
    Calls Try.prog 11 #[.agg #[.int .i64 op, .int .i64 d, .int .i64 n, .int .i64 m, .int .i64 imm], .int .u64 (uv x), .int .u64 (uv y)] w fun e w' => e = .returned (.tuple #[.int .u64 (uv (doB op imm x y)), .int .i64 0]) ∧ Below w.heap.size w w' := by
  unfold mayDoB at h
  rw [Bool.and_eq_true, decide_eq_true_eq] at h
  obtain ⟨h, h6⟩ := h
  have hop := okI_op h
  have : op = 1 ∨ op = 2 ∨ op = 3 ∨ op = 4 ∨ op = 5 ∨ op = 6 := by omega
  rcases this with rfl | rfl | rfl | rfl | rfl | rfl
  · exact do_1 d n m imm x y w h
  · exact do_2 d n m imm x y w h
  · exact do_3 d n m imm x y w h
  · exact do_4 d n m imm x y w h
  · exact do_5 d n m imm x y w h
  · exact do_6 d n m imm x y w h
theorem do_no (op d n m imm : Int) (x y : BitVec 64) (w : World) (h : mayDoB op d n m imm = false) :
    Calls Try.prog 11 #[.agg #[.int .i64 op, .int .i64 d, .int .i64 n, .int .i64 m, .int .i64 imm], .int .u64 (uv x), .int .u64 (uv y)] w fun e w' => e = .returned (.tuple #[.int .u64 0, .int .i64 1]) ∧ Below w.heap.size w w' := by
  rcases hk : okI op d n m imm with _ | _
  · exact do_no1 op d n m imm x y w hk
  · unfold mayDoB at h
    rw [hk, Bool.true_and, decide_eq_false_iff_not] at h
    exact do_no2 op d n m imm x y w hk (by omega)
end Go.Proofs.Ytkdoedfdpijfkaa
