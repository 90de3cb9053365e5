/- Plain laws on a root's word. -/
import Derived.Test.YtfialajiaphciaaJoin
import Derived.Test.YtfialajiaphciaaBits
namespace Go.Proofs.Ytfialajiaphciaa
open Go.RowKit

def btwB (x lo hi : Int) : Bool := decide (lo ≤ x ∧ x ≤ hi)
theorem btw_of_yes {x lo hi : Int} (h : btwB x lo hi = true) : lo ≤ x ∧ x ≤ hi := by simpa [btwB] using h
theorem btw_of_no {x lo hi : Int} (h : btwB x lo hi = false) : x < lo ∨ (lo ≤ x ∧ hi < x) := by
  have h' : ¬ (lo ≤ x ∧ x ≤ hi) := by simpa [btwB] using h
  omega
theorem btw_yes {x lo hi : Int} (h1 : lo ≤ x) (h2 : x ≤ hi) : btwB x lo hi = true := by simp [btwB]; omega

theorem may_small (a n : Int) (x : Int) (hf : fitsB a n = true) (h0 : 0 ≤ x) (h : x < 2 ^ n.toNat) : mayB a n (BitVec.ofInt 64 x) = true := by
  obtain ⟨h1, h2, h3, h4⟩ := fitsB_yes hf
  obtain ⟨k, rfl⟩ := Int.eq_ofNat_of_zero_le h0
  unfold mayB
  rw [hf, Bool.true_and, beq_iff_eq]
  apply BitVec.eq_of_getLsbD_eq
  intro i hi
  rw [BitVec.getLsbD_and, BitVec.getLsbD_not, low_bits' n (by omega) (by omega)]
  by_cases hn : (i : Int) < n
  · simp [hn]
  · have hk : k < 2 ^ i := by
      have e : ((2 : Int) ^ n.toNat) = ((2 ^ n.toNat : Nat) : Int) := by simp
      have h5 : k < 2 ^ n.toNat := by omega
      exact Nat.lt_of_lt_of_le h5 (Nat.pow_le_pow_right (by omega) (by omega))
    have hb : (BitVec.ofInt 64 (k : Int)).getLsbD i = false := by
      rw [BitVec.ofInt_natCast, BitVec.getLsbD_ofNat]
      rw [Nat.testBit_lt_two_pow hk]
      simp
    rw [hb]; simp
theorem step_yes (W T : BitVec 64) (a n : Int) (x : BitVec 64) (h : (T &&& maskB a n == 0#64) = true) : stepF (some (W, T)) (a, n, x) = some (W ||| x <<< a.toNat, T ||| maskB a n) := by
  show (if (T &&& maskB a n == 0#64) = true then some (W ||| x <<< a.toNat, T ||| maskB a n) else none) = _
  rw [if_pos h]
/-- a bit as a word -/
def onB (p : Bool) : BitVec 64 := if p then 1#64 else 0#64
theorem on_may (p : Bool) (a : Int) (h : fitsB a 1 = true) : mayB a 1 (onB p) = true := by
  cases p
  · exact may_small a 1 0 h (by omega) (by decide)
  · exact may_small a 1 1 h (by omega) (by decide)
theorem shl_nat (x k : Nat) (hx : x * 2 ^ k < 18446744073709551616) : (BitVec.ofInt 64 (x : Int) <<< k).toNat = x * 2 ^ k := by
  have hp : 0 < 2 ^ k := Nat.two_pow_pos k
  have hx' : x < 18446744073709551616 := Nat.lt_of_le_of_lt (Nat.le_mul_of_pos_right x hp) hx
  rw [BitVec.toNat_shiftLeft, BitVec.ofInt_natCast, BitVec.toNat_ofNat, Nat.mod_eq_of_lt hx', Nat.shiftLeft_eq, Nat.mod_eq_of_lt hx]
theorem or_nat (i x y : Nat) (hy : y < 2 ^ i) : x * 2 ^ i ||| y = x * 2 ^ i + y := by
  rw [← Nat.shiftLeft_eq, ← Nat.shiftLeft_add_eq_or_of_lt hy]
theorem getB_nat (w : BitVec 64) (a k : Nat) (hk : k < 64) : uv (getB w a k) = uv w / 2 ^ a % 2 ^ k := by
  have hl : (lowB (k : Int)).toNat = 2 ^ k - 1 := by
    have h := lowB_sub k hk
    rw [← h, BitVec.toNat_sub, BitVec.toNat_shiftLeft, Nat.shiftLeft_eq]
    have h1 : (2 : Nat) ^ k < 2 ^ 64 := Nat.pow_lt_pow_right (by omega) (by omega)
    have h2 : 0 < (2 : Nat) ^ k := Nat.two_pow_pos _
    have e2 : (1#64).toNat = 1 := rfl
    rw [e2, Nat.one_mul, Nat.mod_eq_of_lt h1]
    omega
  unfold getB uv
  rw [BitVec.toNat_and, hl, Nat.and_two_pow_sub_one_eq_mod, BitVec.toNat_ushiftRight, Nat.shiftRight_eq_div_pow, Int.toNat_natCast]
  simp
theorem sv_small (x : BitVec 64) (h : uv x < 9223372036854775808) : sv x = uv x := by
  rw [← sv_i64, IntKind.wrap_i64]; have := uv_lt x; omega
theorem sv_w64 (x : BitVec 64) : wrap64 (uv x) = sv x := by
  rw [← sv_i64, IntKind.wrap_i64]; unfold wrap64; omega
/-- a part of a word, as a number -/
def partI (w : BitVec 64) (a k : Nat) : Int := uv w / 2 ^ a % 2 ^ k
theorem part_sv (w : BitVec 64) (a k : Nat) (hk : k < 63) : sv (getB w a k) = partI w a k := by
  have h := getB_nat w a k (by omega)
  have e : ((2 : Int) ^ k) = ((2 ^ k : Nat) : Int) := by simp
  have h2 : 0 < (2 : Nat) ^ k := Nat.two_pow_pos _
  have h3 : (2 : Nat) ^ k ≤ 2 ^ 62 := Nat.pow_le_pow_right (by omega) (by omega)
  have hb : uv (getB w a k) < 9223372036854775808 := by
    rw [h, e]
    have := Int.emod_lt_of_pos (uv w / 2 ^ a) (by omega : (0 : Int) < ((2 ^ k : Nat) : Int))
    omega
  rw [sv_small _ hb, h]; rfl

/-- a root's fields, and its word -/
def rootL (on : Bool) (f t : Int) : List (Int × Int × BitVec 64) := [(0, 1, onB on), (12, 12, BitVec.ofInt 64 f), (48, 4, BitVec.ofInt 64 t)]
def rootB (on : Bool) (f t : Int) : BitVec 64 := 0#64 ||| onB on <<< 0 ||| BitVec.ofInt 64 f <<< 12 ||| BitVec.ofInt 64 t <<< 48
def okR (f t : Int) : Bool := btwB f 0 4095 && btwB t 0 15
theorem join_root (on : Bool) (f t : Int) (h : okR f t = true) : ∃ T, joinF (rootL on f t) = (rootB on f t, T, 0) := by
  unfold okR at h
  rw [Bool.and_eq_true] at h
  obtain ⟨f1, f2⟩ := btw_of_yes h.1
  obtain ⟨t1, t2⟩ := btw_of_yes h.2
  refine ⟨0#64 ||| maskB 0 1 ||| maskB 12 12 ||| maskB 48 4, join_ok ?_ ?_⟩
  · simp only [rootL, List.all_cons, List.all_nil, Bool.and_true, mayF]
    rw [on_may on 0 (by decide), may_small 12 12 f (by decide) f1 (by show f < 4096; omega), may_small 48 4 t (by decide) t1 (by show t < 16; omega)]
    rfl
  · unfold rootL foldF
    simp only [List.foldl_cons, List.foldl_nil]
    rw [step_yes _ _ _ _ _ (by decide +kernel), step_yes _ _ _ _ _ (by decide +kernel), step_yes _ _ _ _ _ (by decide +kernel)]
    rfl
def onI (p : Bool) : Int := if p then 1 else 0
theorem root_num (on : Bool) (f t : Int) (h : okR f t = true) : uv (rootB on f t) = onI on + f * 4096 + t * 281474976710656 := by
  unfold okR at h
  rw [Bool.and_eq_true] at h
  obtain ⟨f1, f2⟩ := btw_of_yes h.1
  obtain ⟨t1, t2⟩ := btw_of_yes h.2
  obtain ⟨f, rfl⟩ := Int.eq_ofNat_of_zero_le f1
  obtain ⟨t, rfl⟩ := Int.eq_ofNat_of_zero_le t1
  unfold uv rootB
  rw [BitVec.zero_or, BitVec.shiftLeft_zero, BitVec.toNat_or, BitVec.toNat_or, shl_nat f 12 (by omega), shl_nat t 48 (by omega)]
  have ho : (onB on).toNat < 2 ^ 12 := by cases on <;> decide
  have hn : ((onB on).toNat : Int) = onI on := by cases on <;> rfl
  rw [Nat.or_comm (onB on).toNat, or_nat 12 f _ ho, Nat.or_comm, or_nat 48 t _ (by omega)]
  rw [← hn]
  omega
theorem part_bd (w : BitVec 64) (a k : Nat) : 0 ≤ partI w a k ∧ partI w a k < 2 ^ k := by
  have e : ((2 : Int) ^ k) = ((2 ^ k : Nat) : Int) := by simp
  have h2 : 0 < (2 : Nat) ^ k := Nat.two_pow_pos _
  unfold partI
  rw [e]
  exact ⟨Int.emod_nonneg _ (by omega), Int.emod_lt_of_pos _ (by omega)⟩
theorem okR_part (w : BitVec 64) : okR (partI w 12 12) (partI w 48 4) = true := by
  have h1 := part_bd w 12 12
  have h2 := part_bd w 48 4
  unfold okR
  rw [btw_yes h1.1 (by have : ((2 : Int) ^ 12) = 4096 := by decide
                       omega), btw_yes h2.1 (by have : ((2 : Int) ^ 4) = 16 := by decide
                                                omega)]
  rfl
def onD (w : BitVec 64) : Bool := w &&& 1#64 == 1#64
theorem onD_num (w : BitVec 64) : onD w = decide (uv w % 2 = 1) := by
  unfold onD uv
  rw [Bool.eq_iff_iff, beq_iff_eq, decide_eq_true_eq, ← BitVec.toNat_inj, BitVec.toNat_and]
  have e : (1#64).toNat = 2 ^ 1 - 1 := rfl
  rw [e, Nat.and_two_pow_sub_one_eq_mod]
  omega
/-- a root's word is read as it -/
theorem root_back (on : Bool) (f t : Int) (h : okR f t = true) : onD (rootB on f t) = on ∧ partI (rootB on f t) 12 12 = f ∧ partI (rootB on f t) 48 4 = t := by
  have hn := root_num on f t h
  unfold okR at h
  rw [Bool.and_eq_true] at h
  obtain ⟨f1, f2⟩ := btw_of_yes h.1
  obtain ⟨t1, t2⟩ := btw_of_yes h.2
  unfold partI
  rw [onD_num, hn]
  have o1 : 0 ≤ onI on ∧ onI on ≤ 1 := by cases on <;> decide
  refine ⟨?_, ?_, ?_⟩
  · cases on
    · simp [onI]; omega
    · simp [onI]; omega
  · have e1 : ((2 : Int) ^ 12) = 4096 := by decide
    rw [e1]; omega
  · have e1 : ((2 : Int) ^ 48) = 281474976710656 := by decide
    have e2 : ((2 : Int) ^ 4) = 16 := by decide
    rw [e1, e2]; omega
def okRof (w : BitVec 64) : Bool := rootB (onD w) (partI w 12 12) (partI w 48 4) == w
theorem okRof_root (on : Bool) (f t : Int) (h : okR f t = true) : okRof (rootB on f t) = true := by
  obtain ⟨h1, h2, h3⟩ := root_back on f t h
  unfold okRof
  rw [h1, h2, h3]; simp
/-- the bits that no root has -/
theorem root_bits (on : Bool) (f t : Int) (h : okR f t = true) (k : Nat) (hk : (1 ≤ k ∧ k < 12) ∨ (24 ≤ k ∧ k < 48) ∨ (52 ≤ k ∧ k < 64)) : (rootB on f t).getLsbD k = false := by
  have hn := root_num on f t h
  unfold okR at h
  rw [Bool.and_eq_true] at h
  obtain ⟨f1, f2⟩ := btw_of_yes h.1
  obtain ⟨t1, t2⟩ := btw_of_yes h.2
  obtain ⟨f, rfl⟩ := Int.eq_ofNat_of_zero_le f1
  obtain ⟨t, rfl⟩ := Int.eq_ofNat_of_zero_le t1
  unfold rootB
  have sm : ∀ (x m : Nat) (i : Nat), x < 2 ^ m → m ≤ i → (BitVec.ofInt 64 (x : Int)).getLsbD i = false := fun x m i hx hm => by
    rw [BitVec.ofInt_natCast, BitVec.getLsbD_ofNat, Nat.testBit_lt_two_pow (Nat.lt_of_lt_of_le hx (Nat.pow_le_pow_right (by omega) hm))]
    simp
  have so : ∀ i, 1 ≤ i → (onB on).getLsbD i = false := fun i hi => by
    cases on
    · simp [onB]
    · have : i ≠ 0 := by omega
      simp [onB, BitVec.getLsbD_one, this]
  simp only [BitVec.zero_or, BitVec.shiftLeft_zero, BitVec.getLsbD_or, BitVec.getLsbD_shiftLeft]
  rw [so k (by omega)]
  by_cases c1 : k < 12
  · have c2 : k < 48 := by omega
    simp [c1, c2]
  · rw [sm f 12 (k - 12) (by omega) (by omega)]
    by_cases c2 : k < 48
    · simp [c2]
    · rw [sm t 4 (k - 48) (by omega) (by omega)]; simp
theorem okRof_bit (w : BitVec 64) (k : Nat) (hk : (1 ≤ k ∧ k < 12) ∨ (24 ≤ k ∧ k < 48) ∨ (52 ≤ k ∧ k < 64)) : okRof (w ||| 1#64 <<< k) = false := by
  unfold okRof
  rw [Bool.eq_false_iff]
  intro h
  rw [beq_iff_eq] at h
  have h1 := root_bits (onD (w ||| 1#64 <<< k)) _ _ (okR_part (w ||| 1#64 <<< k)) k hk
  rw [h] at h1
  rw [BitVec.getLsbD_or, BitVec.getLsbD_shiftLeft] at h1
  have : k < 64 := by omega
  simp [this] at h1
end Go.Proofs.Ytfialajiaphciaa
