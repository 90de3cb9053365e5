/- Plain laws on a fault's word. -/
import Derived.Test.YtfialajiaphciaaUroot
namespace Go.Proofs.Ytfialajiaphciaa
open Go.RowKit

/-- a fault's fields, and its word -/
def synL (k s l : Int) (wk : Bool) (p : Int) : List (Int × Int × BitVec 64) := [(0, 3, BitVec.ofInt 64 k), (3, 2, BitVec.ofInt 64 s), (5, 2, BitVec.ofInt 64 l), (7, 1, onB wk), (8, 12, BitVec.ofInt 64 p)]
def synB (k s l : Int) (wk : Bool) (p : Int) : BitVec 64 := 0#64 ||| BitVec.ofInt 64 k <<< 0 ||| BitVec.ofInt 64 s <<< 3 ||| BitVec.ofInt 64 l <<< 5 ||| onB wk <<< 7 ||| BitVec.ofInt 64 p <<< 8
def okS (k s l p : Int) : Bool := btwB k 0 4 && btwB s 0 2 && btwB l 0 3 && btwB p 0 4095
theorem okS_of {k s l p : Int} (h : okS k s l p = true) : (0 ≤ k ∧ k ≤ 4) ∧ (0 ≤ s ∧ s ≤ 2) ∧ (0 ≤ l ∧ l ≤ 3) ∧ 0 ≤ p ∧ p ≤ 4095 := by
  unfold okS at h
  simp only [Bool.and_eq_true] at h
  exact ⟨btw_of_yes h.1.1.1, btw_of_yes h.1.1.2, btw_of_yes h.1.2, btw_of_yes h.2⟩
theorem join_syn (k s l : Int) (wk : Bool) (p : Int) (h : okS k s l p = true) : ∃ T, joinF (synL k s l wk p) = (synB k s l wk p, T, 0) := by
  obtain ⟨⟨k1, k2⟩, ⟨s1, s2⟩, ⟨l1, l2⟩, p1, p2⟩ := okS_of h
  refine ⟨0#64 ||| maskB 0 3 ||| maskB 3 2 ||| maskB 5 2 ||| maskB 7 1 ||| maskB 8 12, join_ok ?_ ?_⟩
  · simp only [synL, List.all_cons, List.all_nil, Bool.and_true, mayF]
    rw [may_small 0 3 k (by decide) k1 (by show k < 8; omega), may_small 3 2 s (by decide) s1 (by show s < 4; omega), may_small 5 2 l (by decide) l1 (by show l < 4; omega), on_may wk 7 (by decide), may_small 8 12 p (by decide) p1 (by show p < 4096; omega)]
    rfl
  · unfold synL foldF
    simp only [List.foldl_cons, List.foldl_nil]
    rw [step_yes _ _ _ _ _ (by decide +kernel), step_yes _ _ _ _ _ (by decide +kernel), step_yes _ _ _ _ _ (by decide +kernel), step_yes _ _ _ _ _ (by decide +kernel), step_yes _ _ _ _ _ (by decide +kernel)]
    rfl
theorem syn_num (k s l : Int) (wk : Bool) (p : Int) (h : okS k s l p = true) : uv (synB k s l wk p) = k + s * 8 + l * 32 + onI wk * 128 + p * 256 := by
  obtain ⟨⟨k1, k2⟩, ⟨s1, s2⟩, ⟨l1, l2⟩, p1, p2⟩ := okS_of h
  obtain ⟨k, rfl⟩ := Int.eq_ofNat_of_zero_le k1
  obtain ⟨s, rfl⟩ := Int.eq_ofNat_of_zero_le s1
  obtain ⟨l, rfl⟩ := Int.eq_ofNat_of_zero_le l1
  obtain ⟨p, rfl⟩ := Int.eq_ofNat_of_zero_le p1
  obtain ⟨o, ho, hw, hoI⟩ : ∃ o : Nat, o < 2 ∧ onB wk = BitVec.ofInt 64 (o : Int) ∧ onI wk = o := by
    cases wk
    · exact ⟨0, by omega, rfl, rfl⟩
    · exact ⟨1, by omega, rfl, rfl⟩
  unfold uv synB
  rw [hw, hoI, BitVec.zero_or, BitVec.toNat_or, BitVec.toNat_or, BitVec.toNat_or, BitVec.toNat_or, shl_nat k 0 (by omega), shl_nat s 3 (by omega), shl_nat l 5 (by omega), shl_nat o 7 (by omega), shl_nat p 8 (by omega)]
  rw [Nat.or_comm (k * 2 ^ 0), or_nat 3 s _ (by omega), Nat.or_comm (s * 2 ^ 3 + k * 2 ^ 0), or_nat 5 l _ (by omega), Nat.or_comm (l * 2 ^ 5 + (s * 2 ^ 3 + k * 2 ^ 0)), or_nat 7 o _ (by omega), Nat.or_comm (o * 2 ^ 7 + (l * 2 ^ 5 + (s * 2 ^ 3 + k * 2 ^ 0))), or_nat 8 p _ (by omega)]
  omega
/-- a fault's word is read as it -/
theorem syn_back (k s l : Int) (wk : Bool) (p : Int) (h : okS k s l p = true) :
    partI (synB k s l wk p) 0 3 = k ∧ partI (synB k s l wk p) 3 2 = s ∧ partI (synB k s l wk p) 5 2 = l ∧ partI (synB k s l wk p) 7 1 = onI wk ∧ partI (synB k s l wk p) 8 12 = p := by
  have hn := syn_num k s l wk p h
  obtain ⟨⟨k1, k2⟩, ⟨s1, s2⟩, ⟨l1, l2⟩, p1, p2⟩ := okS_of h
  have o1 : 0 ≤ onI wk ∧ onI wk ≤ 1 := by cases wk <;> decide
  unfold partI
  rw [hn]
  have e0 : ((2 : Int) ^ 0) = 1 := by decide
  have e1 : ((2 : Int) ^ 1) = 2 := by decide
  have e2 : ((2 : Int) ^ 2) = 4 := by decide
  have e3 : ((2 : Int) ^ 3) = 8 := by decide
  have e5 : ((2 : Int) ^ 5) = 32 := by decide
  have e7 : ((2 : Int) ^ 7) = 128 := by decide
  have e8 : ((2 : Int) ^ 8) = 256 := by decide
  have e12 : ((2 : Int) ^ 12) = 4096 := by decide
  rw [e0, e1, e2, e3, e5, e7, e8, e12]
  refine ⟨?_, ?_, ?_, ?_, ?_⟩ <;> omega
end Go.Proofs.Ytfialajiaphciaa
