/- A run reckoned beforehand, quickly: numbers of sixty-four bits. No conditions. -/
import Derived.Test.YtmlpimckfneliaaGreatFc
namespace Go.Proofs.YtmlpimckfneliaaGreat.Ev
theorem wrap_i64 {r : Nat} (h : r < 9223372036854775808) : IntKind.wrap .i64 (r : Int) = r := by
  have e : ((r : Int) % (2 ^ 64 : Int)) = r := Int.emod_eq_of_lt (by omega) (by omega)
  simp only [IntKind.wrap, IntKind.bits, IntKind.signed, e]
  rw [if_neg]
  simp only [Bool.true_and, decide_eq_true_eq]
  omega
theorem wrap_u64 (r : Nat) : IntKind.wrap .u64 (r : Int) = ((r % 18446744073709551616 : Nat) : Int) := by
  simp only [IntKind.wrap, IntKind.bits, IntKind.signed, Bool.false_and]
  simp
def kI (k : IntKind) (n : Int) : CV := .p (.one (.lit (.int k n)))
theorem i64K_ok (r : Nat) (K : CV → R) (d : R) : i64K r K d = d ∨ (i64K r K d = K (kI .i64 r) ∧ IntKind.wrap .i64 (r : Int) = r) := by
  unfold i64K
  cases h : Nat.blt r 9223372036854775808 with
  | false => exact .inl rfl
  | true =>
    right
    have h : r < 9223372036854775808 := Nat.le_of_ble_eq_true h
    refine ⟨?_, wrap_i64 h⟩
    show fcN r _ = _
    rw [fcN_eq]
    rfl
theorem b64_ok (k : IntKind) (r : Nat) (K : CV → R) (d : R) : b64 k r K d = d ∨ b64 k r K d = K (kI k (k.wrap (r : Int))) := by
  cases k with
  | i64 =>
    rcases i64K_ok r K d with h | ⟨h, h'⟩
    · exact .inl h
    · right
      rw [h']
      exact h
  | u64 =>
    right
    show u64K r K d = _
    unfold u64K
    rw [fcN_eq, wrap_u64]
    rfl
  | _ => exact .inl rfl
theorem r64_ok (k : IntKind) (r : Nat) (K : CV → R) (d : R) : r64 k r K d = d ∨ r64 k r K d = K (kI k (r : Int)) := by
  cases k with
  | i64 =>
    rcases i64K_ok r K d with h | ⟨h, _⟩
    · exact .inl h
    · exact .inr h
  | u64 =>
    show u64R r K d = _ ∨ u64R r K d = _
    unfold u64R
    cases Nat.blt r 18446744073709551616 with
    | false => exact .inl rfl
    | true =>
      right
      show fcN r _ = _
      rw [fcN_eq]
      rfl
  | _ => exact .inl rfl
theorem kB_eq (b : Bool) (K : CV → R) : kB b K = K (lv (.bool b)) := by cases b <;> rfl
theorem beq_cast (a b : Nat) : ((a : Int) == (b : Int)) = Nat.beq a b := by
  by_cases h : a = b
  · subst h
    simp
  · have h1 : Nat.beq a b = false := by
      cases hb : Nat.beq a b with
      | false => rfl
      | true => exact absurd (Nat.eq_of_beq_eq_true hb) h
    rw [h1]
    simp
    omega
theorem blt_cast (a b : Nat) : decide ((a : Int) < (b : Int)) = Nat.blt a b := by
  cases h : Nat.blt a b with
  | true =>
    have : a < b := Nat.le_of_ble_eq_true h
    simp; omega
  | false =>
    have : ¬ a < b := fun h' => by rw [show Nat.blt a b = true from Nat.ble_eq_true_of_le h'] at h; cases h
    simp; omega
theorem ble_cast (a b : Nat) : decide ((a : Int) ≤ (b : Int)) = Nat.ble a b := by
  cases h : Nat.ble a b with
  | true =>
    have : a ≤ b := Nat.le_of_ble_eq_true h
    simp; omega
  | false =>
    have : ¬ a ≤ b := fun h' => by rw [Nat.ble_eq_true_of_le h'] at h; cases h
    simp; omega
theorem wrap_mod (k : IntKind) (hk : k.bits = 64) (x : Nat) : k.wrap ((x % 2 ^ 64 : Nat) : Int) = k.wrap (x : Int) := by
  unfold IntKind.wrap
  rw [hk]
  have : (((x % 2 ^ 64 : Nat) : Int) % (2 ^ 64 : Int)) = ((x : Int) % (2 ^ 64 : Int)) := by omega
  rw [this]
theorem ofInt_nat (a : Nat) : (BitVec.ofInt 64 (a : Int)).toNat = a % 2 ^ 64 := by
  rw [BitVec.toNat_ofInt]
  omega
theorem same_sh {op : BinOp} {k k' : IntKind} (h : sh64 op = false) (hs : same64 op k k' = true) : k = k' := by
  cases k with
  | i64 =>
    replace hs : Bool.rec (motive := fun _ => Bool) (isI k') true (sh64 op) = true := hs
    rw [h] at hs
    cases k' <;> first | rfl | cases hs
  | u64 =>
    replace hs : Bool.rec (motive := fun _ => Bool) (isU k') true (sh64 op) = true := hs
    rw [h] at hs
    cases k' <;> first | rfl | cases hs
  | _ => cases hs
theorem same_bits {op : BinOp} {k k' : IntKind} (hs : same64 op k k' = true) : k.bits = 64 := by
  cases k <;> first | rfl | cases hs
/-- the other way, or as it is to be -/
def Gd (op : BinOp) (k : IntKind) (a : Nat) (k' : IntKind) (b : Nat) (K : CV → R) (d x : R) : Prop := x = d ∨ ∃ v, evInts op k (a : Int) k' (b : Int) = some v ∧ x = K (lv v)
section
variable {op : BinOp} {k k' : IntKind} {a b : Nat} {K : CV → R} {d x : R}
theorem Gd.mk {v : Value} (h1 : evInts op k (a : Int) k' (b : Int) = some v) (h2 : x = d ∨ x = K (lv v)) : Gd op k a k' b K d x := by
  rcases h2 with h2 | h2
  · exact .inl h2
  · exact .inr ⟨v, h1, h2⟩
theorem Gd.two {c : Bool} {y : R} (h : c = true → Gd op k a k' b K d y) : Gd op k a k' b K d (Bool.rec (motive := fun _ => R) d y c) := by
  cases c with
  | true => exact h rfl
  | false => exact .inl rfl
theorem Gd.two' {c : Bool} {y : R} (h : c = false → Gd op k a k' b K d y) : Gd op k a k' b K d (Bool.rec (motive := fun _ => R) y d c) := by
  cases c with
  | true => exact .inl rfl
  | false => exact h rfl
end
theorem bit_and (a b : Nat) : ((BitVec.ofInt 64 (a : Int) &&& BitVec.ofInt 64 (b : Int)).toNat : Nat) = (a &&& b) % 2 ^ 64 := by
  rw [BitVec.toNat_and, ofInt_nat, ofInt_nat, ← Nat.and_mod_two_pow]
theorem bit_or (a b : Nat) : ((BitVec.ofInt 64 (a : Int) ||| BitVec.ofInt 64 (b : Int)).toNat : Nat) = (a ||| b) % 2 ^ 64 := by
  rw [BitVec.toNat_or, ofInt_nat, ofInt_nat, ← Nat.or_mod_two_pow]
theorem ev_and {k : IntKind} (hk : k = .i64 ∨ k = .u64) (a b : Nat) : evInts .and k (a : Int) k (b : Int) = some (.int k (k.wrap ((a &&& b : Nat) : Int))) := by
  have e := bit_and a b
  have w := wrap_mod k (by rcases hk with rfl | rfl <;> rfl) (a &&& b)
  rw [← w, ← e]
  rcases hk with rfl | rfl <;> rfl
theorem ev_or {k : IntKind} (hk : k = .i64 ∨ k = .u64) (a b : Nat) : evInts .or k (a : Int) k (b : Int) = some (.int k (k.wrap ((a ||| b : Nat) : Int))) := by
  have e := bit_or a b
  have w := wrap_mod k (by rcases hk with rfl | rfl <;> rfl) (a ||| b)
  rw [← w, ← e]
  rcases hk with rfl | rfl <;> rfl
theorem bits_two {k : IntKind} (h : k.bits = 64) : k = .i64 ∨ k = .u64 := by
  cases k <;> first | exact .inl rfl | exact .inr rfl | cases h
theorem n64_ok (op : BinOp) {k k' : IntKind} (a b : Nat) (K : CV → R) (d : R) (hs : same64 op k k' = true) : Gd op k a k' b K d (n64 op k a b K d) := by
  have hk := same_bits hs
  have hsame := fun h => same_sh (op := op) h hs
  cases op with
  | add =>
    obtain rfl := hsame rfl
    refine .mk (v := .int k (k.wrap ((a : Int) + b))) (by simp [evInts, binI]) ?_
    have := b64_ok k (a + b) K d
    rwa [Int.natCast_add] at this
  | mul =>
    obtain rfl := hsame rfl
    refine .mk (v := .int k (k.wrap ((a : Int) * b))) (by simp [evInts, binI]) ?_
    have := b64_ok k (a * b) K d
    rwa [Int.natCast_mul] at this
  | sub =>
    obtain rfl := hsame rfl
    refine Gd.two (c := Nat.ble b a) (y := b64 k (a - b) K d) fun hb => ?_
    have hb := Nat.le_of_ble_eq_true hb
    refine .mk (v := .int k (k.wrap ((a : Int) - b))) (by simp [evInts, binI]) ?_
    have := b64_ok k (a - b) K d
    rwa [Int.natCast_sub hb] at this
  | quo =>
    obtain rfl := hsame rfl
    refine Gd.two' (c := Nat.beq b 0) (y := b64 k (a / b) K d) fun hb => ?_
    have hb : b ≠ 0 := Nat.ne_of_beq_eq_false hb
    refine .mk (v := .int k (k.wrap ((a : Int).tdiv b))) (by simp [evInts, binI]; omega) ?_
    have := b64_ok k (a / b) K d
    rwa [show (((a / b : Nat)) : Int) = (a : Int).tdiv b from by simp] at this
  | rem =>
    obtain rfl := hsame rfl
    refine Gd.two' (c := Nat.beq b 0) (y := r64 k (a % b) K d) fun hb => ?_
    have hb : b ≠ 0 := Nat.ne_of_beq_eq_false hb
    refine .mk (v := .int k ((a : Int).tmod b)) (by simp [evInts, binI]; omega) ?_
    have := r64_ok k (a % b) K d
    rwa [show (((a % b : Nat)) : Int) = (a : Int).tmod b from by rw [Int.natCast_emod, Int.tmod_eq_emod_of_nonneg (by omega)]] at this
  | and =>
    obtain rfl := hsame rfl
    exact .mk (ev_and (bits_two hk) a b) (b64_ok k (a &&& b) K d)
  | or =>
    obtain rfl := hsame rfl
    exact .mk (ev_or (bits_two hk) a b) (b64_ok k (a ||| b) K d)
  | xor => exact .inl rfl
  | andNot => exact .inl rfl
  | shl =>
    refine Gd.two (c := Nat.blt b 64) (y := b64 k (a * 2 ^ b) K d) fun hb => ?_
    have hb : b < 64 := Nat.le_of_ble_eq_true hb
    refine .mk (v := .int k (k.wrap ((a * 2 ^ b : Nat) : Int))) ?_ (b64_ok k (a * 2 ^ b) K d)
    simp only [evInts, shI, hk]
    rw [if_neg (by omega), show min (Int.toNat (b : Int)) 64 = b by omega]
    simp
  | shr =>
    refine Gd.two (c := Nat.blt b 64) (y := r64 k (a / 2 ^ b) K d) fun hb => ?_
    have hb : b < 64 := Nat.le_of_ble_eq_true hb
    refine .mk (v := .int k ((a / 2 ^ b : Nat) : Int)) ?_ (r64_ok k (a / 2 ^ b) K d)
    simp only [evInts, shI, hk]
    rw [if_neg (by omega), show min (Int.toNat (b : Int)) 64 = b by omega]
    rw [Int.fdiv_eq_ediv_of_nonneg _ (by exact Int.pow_nonneg (by omega))]
    simp
  | eql =>
    obtain rfl := hsame rfl
    exact .mk (v := .bool ((a : Int) == (b : Int))) (by simp [evInts, binI]) (.inr (by rw [beq_cast]; exact kB_eq _ K))
  | neq =>
    obtain rfl := hsame rfl
    refine .mk (v := .bool ((a : Int) != (b : Int))) (by simp [evInts, binI]) (.inr ?_)
    show kB (Bool.rec true false (Nat.beq a b)) K = _
    rw [kB_eq, show ((a : Int) != (b : Int)) = !((a : Int) == (b : Int)) from rfl, beq_cast]
    cases Nat.beq a b <;> rfl
  | lss =>
    obtain rfl := hsame rfl
    exact .mk (v := .bool (decide ((a : Int) < (b : Int)))) (by simp [evInts, binI]) (.inr (by rw [blt_cast]; exact kB_eq _ K))
  | leq =>
    obtain rfl := hsame rfl
    exact .mk (v := .bool (decide ((a : Int) ≤ (b : Int)))) (by simp [evInts, binI]) (.inr (by rw [ble_cast]; exact kB_eq _ K))
  | gtr =>
    obtain rfl := hsame rfl
    exact .mk (v := .bool (decide ((b : Int) < (a : Int)))) (by simp [evInts, binI]) (.inr (by rw [blt_cast]; exact kB_eq _ K))
  | geq =>
    obtain rfl := hsame rfl
    exact .mk (v := .bool (decide ((b : Int) ≤ (a : Int)))) (by simp [evInts, binI]) (.inr (by rw [ble_cast]; exact kB_eq _ K))
end Go.Proofs.YtmlpimckfneliaaGreat.Ev
