/- Plain laws on sums bit by bit. -/
import Derived.Test.YtkdoedfdpijfkaaU64
namespace Go.Proofs.Ytkdoedfdpijfkaa

def bitB (p : Bool) : BitVec 64 := if p then 1#64 else 0#64
/-- bit k, behind a plain name -/
def gb (a : BitVec 64) (k : Nat) : Bool := a.getLsbD k
theorem bit_at (a : BitVec 64) (k : Nat) : a >>> k &&& 1#64 = bitB (gb a k) := by
  unfold bitB gb
  apply BitVec.eq_of_getLsbD_eq
  intro i hi
  rw [BitVec.getLsbD_and, BitVec.getLsbD_ushiftRight]
  by_cases h0 : i = 0
  · subst h0
    cases h : a.getLsbD k <;> simp
  · have e1 : (1#64).getLsbD i = false := by
      rw [BitVec.getLsbD_one]; simp [h0]
    cases h : a.getLsbD k <;> simp [e1]
theorem bit_shl (p : Bool) (k i : Nat) (hk : k < 64) : (bitB p <<< k).getLsbD i = (decide (i = k) && p) := by
  unfold bitB
  rw [BitVec.getLsbD_shiftLeft]
  cases p
  · simp
  · by_cases h : i = k
    · subst h; simp [hk]
    · by_cases hlt : i < k
      · simp [hlt, h]
      · have : i - k ≠ 0 := by omega
        simp [h, BitVec.getLsbD_one, this]
theorem acc_step (S : BitVec 64) (k : Nat) (hk : k < 64) : (S &&& lowB k) ||| (bitB (S.getLsbD k) <<< k) = S &&& lowB ((k + 1 : Nat) : Int) := by
  apply BitVec.eq_of_getLsbD_eq
  intro i hi
  rw [BitVec.getLsbD_or, BitVec.getLsbD_and, BitVec.getLsbD_and, bit_shl _ _ _ hk, low_bits k (by omega), low_bits (k + 1) (by omega)]
  by_cases h : i = k
  · subst h; simp
  · by_cases hlt : i < k
    · have : i < k + 1 := by omega
      simp [hlt, h, this]
    · have : ¬ i < k + 1 := by omega
      simp [hlt, h, this]
theorem acc_zero (S : BitVec 64) : S &&& lowB ((0 : Nat) : Int) = 0#64 := by
  apply BitVec.eq_of_getLsbD_eq
  intro i hi
  rw [BitVec.getLsbD_and, low_bits 0 (by omega)]
  simp
theorem acc_all (S : BitVec 64) (k : Nat) (h : k = 64) : S &&& lowB (k : Int) = S := by
  subst h
  apply BitVec.eq_of_getLsbD_eq
  intro i hi
  rw [BitVec.getLsbD_and, low_bits 64 (by omega)]
  simp [hi]
theorem bits_and (p q : Bool) : bitB p * bitB q = bitB (p && q) := by cases p <;> cases q <;> rfl
theorem bits_or (p q : Bool) : bitB p + bitB q - bitB (p && q) = bitB (p || q) := by cases p <;> cases q <;> rfl
theorem bits_xor (p q : Bool) : (bitB p + bitB q) % 2#64 = bitB (p ^^ q) := by cases p <;> cases q <;> rfl
theorem bits_sum (p q c : Bool) : (bitB p + bitB q + bitB c) % 2#64 = bitB (p ^^ (q ^^ c)) := by cases p <;> cases q <;> cases c <;> rfl
theorem bits_carry (p q c : Bool) : (bitB p + bitB q + bitB c) / 2#64 = bitB (Bool.atLeastTwo p q c) := by cases p <;> cases q <;> cases c <;> rfl

/-- the sum of two words and one bit -/
def addB (a b : BitVec 64) (c : Bool) : BitVec 64 := a + b + BitVec.setWidth 64 (BitVec.ofBool c)
theorem add_bit (a b : BitVec 64) (c : Bool) (k : Nat) (hk : k < 64) : (addB a b c).getLsbD k = (gb a k ^^ (gb b k ^^ BitVec.carry k a b c)) :=
  BitVec.getLsbD_add_add_bool hk a b c
theorem carry_step (a b : BitVec 64) (c : Bool) (k : Nat) : BitVec.carry (k + 1) a b c = Bool.atLeastTwo (gb a k) (gb b k) (BitVec.carry k a b c) :=
  BitVec.carry_succ k a b c
theorem carry_zero (a b : BitVec 64) (c : Bool) : BitVec.carry 0 a b c = c := BitVec.carry_zero
theorem add_no (a b : BitVec 64) : addB a b false = a + b := by
  unfold addB; simp
theorem add_sub (a b : BitVec 64) : addB a (~~~b) true = a - b := by
  unfold addB
  rw [BitVec.sub_eq_add_neg, BitVec.neg_eq_not_add, ← BitVec.add_assoc]; rfl

theorem uv_and1 (x : BitVec 64) : bits .and .u64 (uv x) 1 = uv (x &&& 1#64) := uv_and x 1#64
theorem uv_mul (x y : BitVec 64) : IntKind.u64.wrap (uv x * uv y) = uv (x * y) := by
  rw [IntKind.wrap_u64]; unfold uv; rw [BitVec.toNat_mul]; simp
theorem uv_wrap (x : BitVec 64) : IntKind.u64.wrap (uv x) = uv x := by
  rw [IntKind.wrap_u64]; have := uv_lt x; omega
theorem uv_rem2 (x : BitVec 64) : (uv x).tmod 2 = uv (x % 2#64) := by
  unfold uv; rw [BitVec.toNat_umod, Int.tmod_eq_emod_of_nonneg (by omega)]; rfl
theorem uv_quo2 (x : BitVec 64) : (uv x).tdiv 2 = uv (x / 2#64) := by
  unfold uv; rw [BitVec.toNat_udiv, Int.tdiv_eq_ediv_of_nonneg (by omega)]; rfl
theorem gb_and (a b : BitVec 64) (k : Nat) : (a &&& b).getLsbD k = (gb a k && gb b k) := BitVec.getLsbD_and
theorem gb_or (a b : BitVec 64) (k : Nat) : (a ||| b).getLsbD k = (gb a k || gb b k) := BitVec.getLsbD_or
theorem gb_xor (a b : BitVec 64) (k : Nat) : (a ^^^ b).getLsbD k = (gb a k ^^ gb b k) := BitVec.getLsbD_xor
end Go.Proofs.Ytkdoedfdpijfkaa
