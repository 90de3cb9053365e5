/- Plain laws on fields of words. No conditions but those named. -/
import Derived.Test.YtfialajiaphciaaU64
namespace Go.Proofs.Ytfialajiaphciaa

theorem low_bits' (n : Int) (h0 : 0 ≤ n) (h : n ≤ 64) (i : Nat) : (lowB n).getLsbD i = decide ((i : Int) < n) := by
  obtain ⟨k, rfl⟩ := Int.eq_ofNat_of_zero_le h0
  rw [low_bits k (by omega)]
  congr 1
  rw [eq_iff_iff]
  omega
theorem mask_bits (a n : Int) (h : fitsB a n = true) (i : Nat) : (maskB a n).getLsbD i = decide (a ≤ i ∧ (i : Int) < a + n) := by
  obtain ⟨h1, h2, h3, h4⟩ := fitsB_yes h
  unfold maskB
  rw [BitVec.getLsbD_shiftLeft, low_bits' n (by omega) (by omega)]
  rw [Bool.eq_iff_iff]
  simp
  omega
theorem get_bits (v : BitVec 64) (a n : Int) (h : fitsB a n = true) (i : Nat) : (getB v a n).getLsbD i = (v.getLsbD (a.toNat + i) && decide ((i : Int) < n)) := by
  obtain ⟨h1, h2, h3, h4⟩ := fitsB_yes h
  unfold getB
  rw [BitVec.getLsbD_and, BitVec.getLsbD_ushiftRight, low_bits' n (by omega) (by omega)]
theorem get_may (v : BitVec 64) (a n : Int) (h : fitsB a n = true) : mayB a n (getB v a n) = true := by
  unfold mayB
  rw [h, Bool.true_and]
  obtain ⟨h1, h2, h3, h4⟩ := fitsB_yes h
  rw [beq_iff_eq]
  apply BitVec.eq_of_getLsbD_eq
  intro i hi
  rw [BitVec.getLsbD_and, BitVec.getLsbD_not, get_bits v a n h, low_bits' n (by omega) (by omega)]
  by_cases hn : (i : Int) < n <;> simp [hn]
theorem may_bits (a n : Int) (x : BitVec 64) (h : mayB a n x = true) (i : Nat) (hi : n ≤ (i : Int)) : x.getLsbD i = false := by
  unfold mayB at h
  rw [Bool.and_eq_true] at h
  obtain ⟨hf, hx⟩ := h
  obtain ⟨h1, h2, h3, h4⟩ := fitsB_yes hf
  rw [beq_iff_eq] at hx
  by_cases h64 : i < 64
  · have := congrArg (fun y : BitVec 64 => y.getLsbD i) hx
    simp only [BitVec.getLsbD_and, BitVec.getLsbD_not, low_bits' n (by omega) (by omega)] at this
    have hn : decide ((i : Int) < n) = false := by rw [decide_eq_false_iff_not]; omega
    cases hxi : x.getLsbD i
    · rfl
    · rw [hxi, hn] at this; simp [h64] at this
  · exact BitVec.getLsbD_of_ge _ _ (by omega)
theorem put_bits (v : BitVec 64) (a n : Int) (x : BitVec 64) (h : mayB a n x = true) (i : Nat) (hi : i < 64) :
    (putB v a n x).getLsbD i = if a ≤ (i : Int) ∧ (i : Int) < a + n then x.getLsbD (i - a.toNat) else v.getLsbD i := by
  have hf : fitsB a n = true := by unfold mayB at h; rw [Bool.and_eq_true] at h; exact h.1
  obtain ⟨h1, h2, h3, h4⟩ := fitsB_yes hf
  unfold putB
  rw [BitVec.getLsbD_or, BitVec.getLsbD_and, BitVec.getLsbD_not, mask_bits a n hf, BitVec.getLsbD_shiftLeft]
  by_cases hin : a ≤ (i : Int) ∧ (i : Int) < a + n
  · have e : ¬ i < a.toNat := by omega
    simp [hin, hi, e]
  · rw [if_neg hin]
    by_cases hlo : i < a.toNat
    · simp [hin, hi, hlo]
    · have := may_bits a n x h (i - a.toNat) (by omega)
      simp [hin, hi, hlo, this]
theorem get_put (v : BitVec 64) (a n : Int) (x : BitVec 64) (h : mayB a n x = true) : getB (putB v a n x) a n = x := by
  have hf : fitsB a n = true := by unfold mayB at h; rw [Bool.and_eq_true] at h; exact h.1
  obtain ⟨h1, h2, h3, h4⟩ := fitsB_yes hf
  apply BitVec.eq_of_getLsbD_eq
  intro i hi
  rw [get_bits _ a n hf]
  by_cases hn : (i : Int) < n
  · rw [put_bits v a n x h _ (by omega), if_pos (by omega)]
    simp [hn]
  · rw [may_bits a n x h i (by omega)]
    simp [hn]
theorem put_put (v : BitVec 64) (a n : Int) (x : BitVec 64) (h : mayB a n x = true) : putB (putB v a n x) a n (getB v a n) = v := by
  have hf : fitsB a n = true := by unfold mayB at h; rw [Bool.and_eq_true] at h; exact h.1
  obtain ⟨h1, h2, h3, h4⟩ := fitsB_yes hf
  apply BitVec.eq_of_getLsbD_eq
  intro i hi
  rw [put_bits _ a n _ (get_may v a n hf) i hi]
  by_cases hin : a ≤ (i : Int) ∧ (i : Int) < a + n
  · rw [if_pos hin, get_bits v a n hf]
    have e : a.toNat + (i - a.toNat) = i := by omega
    have e2 : ((i - a.toNat : Nat) : Int) < n := by omega
    rw [e]; simp [e2]
  · rw [if_neg hin, put_bits v a n x h i hi, if_neg hin]
theorem put_flip (v : BitVec 64) (a n : Int) (hf : fitsB a n = true) : putB v a n (getB (~~~v) a n) ^^^ v = lowB n <<< a.toNat := by
  obtain ⟨h1, h2, h3, h4⟩ := fitsB_yes hf
  show _ = maskB a n
  apply BitVec.eq_of_getLsbD_eq
  intro i hi
  rw [BitVec.getLsbD_xor, put_bits v a n _ (get_may _ a n hf) i hi, mask_bits a n hf]
  by_cases hin : a ≤ (i : Int) ∧ (i : Int) < a + n
  · rw [if_pos hin, get_bits _ a n hf]
    have e : a.toNat + (i - a.toNat) = i := by omega
    have e2 : ((i - a.toNat : Nat) : Int) < n := by omega
    rw [e]; simp [e2, hin, hi]
  · rw [if_neg hin]; simp [hin]
end Go.Proofs.Ytfialajiaphciaa
