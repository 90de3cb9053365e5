/- The contracts of an instruction's word: insn.fields, insn.Word, and the reference's Word. -/
import Derived.Test.YtmbgcfgmoepgbaaInsn
import Derived.Test.YtmbgcfgmoepgbaaWc
import Derived.Test.YtmbgcfgmoepgbaaU32
import Derived.Test.YtmbgcfgmoepgbaaBits
namespace Go.Proofs.Ytmbgcfgmoepgbaa
open Go.RowKit
theorem uv_and4095 (x : BitVec 64) : bits .and .u64 (uv x) 4095 = uv (x &&& 4095#64) := uv_and x 4095#64
attribute [local go_sem] uv_and uv_or uv_xor uv_andNot uv_shr uv_shl uv_add uv_sub uv_neg uv_beq uv_beq0 uv_beq1 uv_bne0 u64_signed uv_not sv_i64 sv_shr uv_sv ones_shr uv_and4095 u3_and u3_or u3_and7 u3_and4095 u3_shr27 u3_shr24 u3_shr21 u3_shr18 u3_shl27 u3_shl24 u3_shl21 u3_shl18 u3_uv u3_i64 u3_w64 u3_u64

def insnL (op d n m imm : Int) : List (Int × Int × BitVec 64) :=
  [(27, 5, BitVec.ofInt 64 op), (24, 3, BitVec.ofInt 64 d), (21, 3, BitVec.ofInt 64 n), (18, 3, BitVec.ofInt 64 m), (0, 12, BitVec.ofInt 64 imm &&& 4095#64)]

def FieldsPost (fs : List (Int × Int × BitVec 64)) (l : Nat) (w : World) (e : Ending) (w' : World) : Prop :=
  ∃ p, e = .returned (.slice p l l) ∧ Below w.heap.size w w' ∧ FieldsL w' p fs

set_option maxHeartbeats 1000000 in
theorem fields_any (op d n m imm : Int) (w : World) :
    Calls Try.prog 21 #[.agg #[.int .i64 op, .int .i64 d, .int .i64 n, .int .i64 m, .int .i64 imm]] w (FieldsPost (insnL op d n m imm) 5 w) := by
  have i1 := uv_ofInt op
  have i2 := uv_ofInt d
  have i3 := uv_ofInt n
  have i4 := uv_ofInt m
  have i5 := uv_ofInt imm
  go_enter Try.func21, Try.ntmps21
  go_wp2
  go_ret
  refine ⟨some ⟨w.heap.size + 1, 0, none⟩, rfl, ((Below.refl _ _).alloc (Nat.le_refl _) _).alloc (by simp) _, w.heap.size + 1, 0, fun _ => rfl, ?_⟩
  intro j a k x hj
  match j, hj with
  | 0, hj => simp [insnL] at hj; obtain ⟨rfl, rfl, rfl⟩ := hj; simp [go_sem]
  | 1, hj => simp [insnL] at hj; obtain ⟨rfl, rfl, rfl⟩ := hj; simp [go_sem]
  | 2, hj => simp [insnL] at hj; obtain ⟨rfl, rfl, rfl⟩ := hj; simp [go_sem]
  | 3, hj => simp [insnL] at hj; obtain ⟨rfl, rfl, rfl⟩ := hj; simp [go_sem]
  | 4, hj => simp [insnL] at hj; obtain ⟨rfl, rfl, rfl⟩ := hj; simp [go_sem]
  | j + 5, hj => simp [insnL] at hj

theorem may_small (a n : Int) (x : Int) (hf : fitsB a n = true) (h0 : 0 ≤ x) (h : x < 2 ^ n.toNat) : mayB a n (BitVec.ofInt 64 x) = true := by
  obtain ⟨h1, h2, h3, h4⟩ := fitsB_yes hf
  obtain ⟨k, rfl⟩ := Int.eq_ofNat_of_zero_le h0
  unfold mayB
  rw [hf, Bool.true_and, beq_iff_eq]
  apply BitVec.eq_of_getLsbD_eq
  intro i hi
  rw [BitVec.getLsbD_and, BitVec.getLsbD_not, low_bits' n (by omega) (by omega)]
  by_cases hn : (i : Int) < n
  · simp [hn]
  · have hk : k < 2 ^ i := by
      have e : ((2 : Int) ^ n.toNat) = ((2 ^ n.toNat : Nat) : Int) := by simp
      have h5 : k < 2 ^ n.toNat := by omega
      exact Nat.lt_of_lt_of_le h5 (Nat.pow_le_pow_right (by omega) (by omega))
    have hb : (BitVec.ofInt 64 (k : Int)).getLsbD i = false := by
      rw [BitVec.ofInt_natCast, BitVec.getLsbD_ofNat]
      rw [Nat.testBit_lt_two_pow hk]
      simp
    rw [hb]; simp
theorem may_low (v : BitVec 64) : mayB 0 12 (v &&& 4095#64) = true := by
  have h := get_may v 0 12 (by decide)
  unfold getB at h
  have e : v >>> (0 : Int).toNat &&& lowB 12 = v &&& 4095#64 := by
    have e1 : (0 : Int).toNat = 0 := rfl
    have e2 : lowB 12 = 4095#64 := rfl
    rw [e1, e2, BitVec.ushiftRight_zero]
  rwa [e] at h
theorem step_yes (W T : BitVec 64) (a n : Int) (x : BitVec 64) (h : (T &&& maskB a n == 0#64) = true) : stepF (some (W, T)) (a, n, x) = some (W ||| x <<< a.toNat, T ||| maskB a n) := by
  show (if (T &&& maskB a n == 0#64) = true then some (W ||| x <<< a.toNat, T ||| maskB a n) else none) = _
  rw [if_pos h]
theorem join_insn (op d n m imm : Int) (h0 : 0 ≤ op) (h0' : op < 32) (h1 : 0 ≤ d) (h1' : d < 8) (h2 : 0 ≤ n) (h2' : n < 8) (h3 : 0 ≤ m) (h3' : m < 8) :
    ∃ T, joinF (insnL op d n m imm) = (0#64 ||| BitVec.ofInt 64 op <<< 27 ||| BitVec.ofInt 64 d <<< 24 ||| BitVec.ofInt 64 n <<< 21 ||| BitVec.ofInt 64 m <<< 18 ||| (BitVec.ofInt 64 imm &&& 4095#64) <<< 0, T, 0) := by
  refine ⟨0#64 ||| maskB 27 5 ||| maskB 24 3 ||| maskB 21 3 ||| maskB 18 3 ||| maskB 0 12, join_ok ?_ ?_⟩
  · simp only [insnL, List.all_cons, List.all_nil, Bool.and_true, mayF]
    rw [may_small 27 5 op (by decide) h0 (by simpa using h0'), may_small 24 3 d (by decide) h1 (by simpa using h1'), may_small 21 3 n (by decide) h2 (by simpa using h2'), may_small 18 3 m (by decide) h3 (by simpa using h3'), may_low]
    rfl
  · unfold insnL foldF
    simp only [List.foldl_cons, List.foldl_nil]
    rw [step_yes _ _ _ _ _ (by decide +kernel), step_yes _ _ _ _ _ (by decide +kernel), step_yes _ _ _ _ _ (by decide +kernel), step_yes _ _ _ _ _ (by decide +kernel), step_yes _ _ _ _ _ (by decide +kernel)]
    rfl
theorem okI_bd {op d n m imm : Int} (h : okI op d n m imm = true) : (1 ≤ op ∧ op ≤ 16) ∧ (0 ≤ d ∧ d ≤ 7) ∧ (0 ≤ n ∧ n ≤ 7) ∧ (0 ≤ m ∧ m ≤ 7) ∧ (-2048 ≤ imm ∧ imm ≤ 2047) := by
  unfold okI at h
  simp only [Bool.and_eq_true] at h
  exact ⟨btw_of_yes h.1.1.1.1.1, btw_of_yes h.1.1.1.1.2, btw_of_yes h.1.1.1.2, btw_of_yes h.1.1.2, btw_of_yes h.1.2⟩

set_option maxHeartbeats 1000000 in
theorem word_yes (op d n m imm : Int) (w : World) (h : okI op d n m imm = true) :
    Calls Try.prog 12 #[.agg #[.int .i64 op, .int .i64 d, .int .i64 n, .int .i64 m, .int .i64 imm]] w fun e w' => e = .returned (.tuple #[.int .u32 (u3 (wordB op d n m imm)), .int .i64 0]) ∧ Below w.heap.size w w' := by
  obtain ⟨⟨b1, b2⟩, ⟨b3, b4⟩, ⟨b5, b6⟩, ⟨b7, b8⟩, _⟩ := okI_bd h
  obtain ⟨T, hj⟩ := join_insn op d n m imm (by omega) (by omega) (by omega) (by omega) (by omega) (by omega) (by omega) (by omega)
  have hw := word_own op d n m imm (by omega) (by omega) (by omega) (by omega) (by omega) (by omega) (by omega) (by omega)
  rw [← hw]
  clear hw
  generalize (0#64 ||| BitVec.ofInt 64 op <<< 27 ||| BitVec.ofInt 64 d <<< 24 ||| BitVec.ofInt 64 n <<< 21 ||| BitVec.ofInt 64 m <<< 18 ||| (BitVec.ofInt 64 imm &&& 4095#64) <<< 0) = X at hj ⊢
  have H := Lib.hid h
  have HJ := Lib.hid hj
  clear h hj b1 b2 b3 b4 b5 b6 b7 b8
  go_enter Try.func12, Try.ntmps12
  go_wp2_with (first
    | (go_at_call 18; refine (check_yes _ _ _ _ _ _ H.out).mono ?_; rintro e w1 ⟨rfl, hb1⟩; obtain ⟨hc, _⟩ := bcell hb1)
    | (go_at_call 21; refine (fields_any _ _ _ _ _ _).mono ?_; rintro e w2 ⟨p, rfl, hb2, hf2⟩)
    | (go_at_call 20; refine (join_any p 5 5 (insnL op d n m imm) X T 0 _ rfl (by unfold maxLen; omega) hf2 HJ.out).mono ?_; rintro e w3 ⟨rfl, hb3⟩))
  go_ret2
  have z1 := hb1.size
  have z2 := hb2.size
  simp at z1
  exact ⟨rfl, ((((Below.refl _ _).alloc (Nat.le_refl _) _).trans (hb1.mono (by simp))).trans (hb2.mono (by omega))).trans (hb3.mono (by omega))⟩
set_option maxHeartbeats 1000000 in
theorem word_no (op d n m imm : Int) (w : World) (h : okI op d n m imm = false) :
    Calls Try.prog 12 #[.agg #[.int .i64 op, .int .i64 d, .int .i64 n, .int .i64 m, .int .i64 imm]] w fun e w' => e = .returned (.tuple #[.int .u32 0, .int .i64 1]) ∧ Below w.heap.size w w' := by
  have H := Lib.hid h
  clear h
  go_enter Try.func12, Try.ntmps12
  go_wp2_with (go_at_call 18; refine (check_no _ _ _ _ _ _ H.out).mono ?_; rintro e w1 ⟨rfl, hb1⟩)
  go_ret2
  exact ⟨rfl, ((Below.refl _ _).alloc (Nat.le_refl _) _).trans (hb1.mono (by simp))⟩
set_option maxHeartbeats 1000000 in
theorem rword (op d n m imm : Int) (w : World) (h : okI op d n m imm = true) :
    Calls Try.prog 14 #[.agg #[.int .i64 op, .int .i64 d, .int .i64 n, .int .i64 m, .int .i64 imm]] w fun e w' => e = .returned (.int .u32 (u3 (wordB op d n m imm))) ∧ Below w.heap.size w w' := by
  obtain ⟨⟨b1, b2⟩, ⟨b3, b4⟩, ⟨b5, b6⟩, ⟨b7, b8⟩, _⟩ := okI_bd h
  have hw := word_ref op d n m imm (by omega) (by omega) (by omega) (by omega) (by omega) (by omega) (by omega) (by omega)
  rw [← hw]
  clear hw h b1 b2 b3 b4 b5 b6 b7 b8
  have i1 := u3_ofInt op
  have i2 := u3_ofInt d
  have i3 := u3_ofInt n
  have i4 := u3_ofInt m
  have i5 := u3_ofInt imm
  go_enter Try.func14, Try.ntmps14
  go_wp2
  go_ret
  exact ⟨rfl, (Below.refl _ _).alloc (Nat.le_refl _) _⟩
end Go.Proofs.Ytmbgcfgmoepgbaa
