/- Words of 32 bits as bit vectors behind a plain name, and what an instruction's word is. No conditions but those named. -/
import Derived.Test.YtmbgcfgmoepgbaaU64
namespace Go.Proofs.Ytmbgcfgmoepgbaa
open Go.RowKit

def u3 (x : BitVec 32) : Int := (x.toNat : Int)
theorem u3_lt (x : BitVec 32) : 0 ≤ u3 x ∧ u3 x < 4294967296 := by
  unfold u3; have := x.isLt; omega
theorem u3_inj {x y : BitVec 32} : u3 x = u3 y ↔ x = y := by
  unfold u3; constructor
  · intro h; apply BitVec.eq_of_toNat_eq; omega
  · rintro rfl; rfl
theorem u3_and (x y : BitVec 32) : bits .and .u32 (u3 x) (u3 y) = u3 (x &&& y) := by
  unfold u3; rw [u32_and_nat _ _ x.isLt y.isLt, BitVec.toNat_and]
theorem u3_or (x y : BitVec 32) : bits .or .u32 (u3 x) (u3 y) = u3 (x ||| y) := by
  unfold u3; rw [u32_or_nat _ _ x.isLt y.isLt, BitVec.toNat_or]
theorem u3_xor (x y : BitVec 32) : bits .xor .u32 (u3 x) (u3 y) = u3 (x ^^^ y) := by
  unfold u3; rw [u32_xor_nat _ _ x.isLt y.isLt, BitVec.toNat_xor]
theorem u3_and7 (x : BitVec 32) : bits .and .u32 (u3 x) 7 = u3 (x &&& 7#32) := u3_and x 7#32
theorem u3_and4095 (x : BitVec 32) : bits .and .u32 (u3 x) 4095 = u3 (x &&& 4095#32) := u3_and x 4095#32
theorem u3_shr (x : BitVec 32) (n : Nat) : u3 x / 2 ^ n = u3 (x >>> n) := by
  unfold u3; rw [BitVec.toNat_ushiftRight, Nat.shiftRight_eq_div_pow]; simp
theorem u3_shl (x : BitVec 32) (n : Nat) : IntKind.u32.wrap (u3 x * 2 ^ n) = u3 (x <<< n) := by
  rw [IntKind.wrap_u32']; unfold u3; rw [BitVec.toNat_shiftLeft, Nat.shiftLeft_eq]; simp
theorem u3_shr27 (x : BitVec 32) : u3 x / 134217728 = u3 (x >>> 27) := u3_shr x 27
theorem u3_shr24 (x : BitVec 32) : u3 x / 16777216 = u3 (x >>> 24) := u3_shr x 24
theorem u3_shr21 (x : BitVec 32) : u3 x / 2097152 = u3 (x >>> 21) := u3_shr x 21
theorem u3_shr18 (x : BitVec 32) : u3 x / 262144 = u3 (x >>> 18) := u3_shr x 18
theorem u3_shl27 (x : BitVec 32) : IntKind.u32.wrap (u3 x * 134217728) = u3 (x <<< 27) := u3_shl x 27
theorem u3_shl24 (x : BitVec 32) : IntKind.u32.wrap (u3 x * 16777216) = u3 (x <<< 24) := u3_shl x 24
theorem u3_shl21 (x : BitVec 32) : IntKind.u32.wrap (u3 x * 2097152) = u3 (x <<< 21) := u3_shl x 21
theorem u3_shl18 (x : BitVec 32) : IntKind.u32.wrap (u3 x * 262144) = u3 (x <<< 18) := u3_shl x 18
theorem u3_ofInt (n : Int) : IntKind.u32.wrap n = u3 (BitVec.ofInt 32 n) := by
  rw [IntKind.wrap_u32']; unfold u3; rw [BitVec.toNat_ofInt]; omega
theorem u3_uv (x : BitVec 64) : IntKind.u32.wrap (uv x) = u3 (x.setWidth 32) := by
  rw [IntKind.wrap_u32']; unfold u3 uv; rw [BitVec.toNat_setWidth]; omega
theorem uv_u3 (x : BitVec 32) : u3 x = uv (x.setWidth 64) := by
  unfold u3 uv; rw [BitVec.toNat_setWidth]; have := x.isLt; omega
theorem u3_i64 (x : BitVec 32) : IntKind.i64.wrap (u3 x) = u3 x := by
  rw [IntKind.wrap_i64]; have := u3_lt x; omega
theorem u3_w64 (x : BitVec 32) : wrap64 (u3 x) = u3 x := by
  unfold wrap64; have := u3_lt x; omega
theorem u3_u64 (x : BitVec 32) : IntKind.u64.wrap (u3 x) = uv (x.setWidth 64) := by
  rw [IntKind.wrap_u64, ← uv_u3]; have := u3_lt x; omega
theorem sv_w64 (x : BitVec 64) : wrap64 (uv x) = sv x := by
  rw [← sv_i64, IntKind.wrap_i64]; unfold wrap64; omega
theorem u3_beq (x y : BitVec 32) : (u3 x == u3 y) = (x == y) := by
  rw [Bool.eq_iff_iff]; simp [u3_inj]
theorem u3_bne (x y : BitVec 32) : (u3 x != u3 y) = (x != y) := by
  simp only [bne, u3_beq]

/-- an instruction's word: as a number, and as a word -/
def encI (op d n m imm : Int) : Int := op * 134217728 + d * 16777216 + n * 2097152 + m * 262144 + imm % 4096
def wordB (op d n m imm : Int) : BitVec 32 := BitVec.ofInt 32 (encI op d n m imm)
/-- which instruction a word is -/
def opD (w : BitVec 32) : Int := u3 w / 134217728
def dD (w : BitVec 32) : Int := u3 w / 16777216 % 8
def nD (w : BitVec 32) : Int := u3 w / 2097152 % 8
def mD (w : BitVec 32) : Int := u3 w / 262144 % 8
def immD (w : BitVec 32) : Int := if 2047 < u3 w % 4096 then u3 w % 4096 - 4096 else u3 w % 4096

theorem nat_enc (op d n m r : Nat) (h1 : d < 8) (h2 : n < 8) (h3 : m < 8) (h4 : r < 4096) :
    op <<< 27 ||| d <<< 24 ||| n <<< 21 ||| m <<< 18 ||| r = op * 134217728 + d * 16777216 + n * 2097152 + m * 262144 + r := by
  have e1 : m <<< 18 ||| r = m <<< 18 + r := (Nat.shiftLeft_add_eq_or_of_lt (by omega) m).symm
  have s1 : m <<< 18 = m * 262144 := Nat.shiftLeft_eq m 18
  have e2 : n <<< 21 ||| (m <<< 18 + r) = n <<< 21 + (m <<< 18 + r) := (Nat.shiftLeft_add_eq_or_of_lt (by omega) n).symm
  have s2 : n <<< 21 = n * 2097152 := Nat.shiftLeft_eq n 21
  have e3 : d <<< 24 ||| (n <<< 21 + (m <<< 18 + r)) = d <<< 24 + (n <<< 21 + (m <<< 18 + r)) := (Nat.shiftLeft_add_eq_or_of_lt (by omega) d).symm
  have s3 : d <<< 24 = d * 16777216 := Nat.shiftLeft_eq d 24
  have e4 : op <<< 27 ||| (d <<< 24 + (n <<< 21 + (m <<< 18 + r))) = op <<< 27 + (d <<< 24 + (n <<< 21 + (m <<< 18 + r))) := (Nat.shiftLeft_add_eq_or_of_lt (by omega) op).symm
  have s4 : op <<< 27 = op * 134217728 := Nat.shiftLeft_eq op 27
  rw [Nat.or_assoc, Nat.or_assoc, Nat.or_assoc, e1, e2, e3, e4]
  omega
/-- the reference's word -/
theorem word_ref (op d n m imm : Int) (h0 : 0 ≤ op) (h0' : op < 32) (h1 : 0 ≤ d) (h1' : d < 8) (h2 : 0 ≤ n) (h2' : n < 8) (h3 : 0 ≤ m) (h3' : m < 8) :
    BitVec.ofInt 32 op <<< 27 ||| BitVec.ofInt 32 d <<< 24 ||| BitVec.ofInt 32 n <<< 21 ||| BitVec.ofInt 32 m <<< 18 ||| (BitVec.ofInt 32 imm &&& 4095#32) = wordB op d n m imm := by
  apply BitVec.eq_of_toNat_eq
  unfold wordB encI
  obtain ⟨op, rfl⟩ := Int.eq_ofNat_of_zero_le h0
  obtain ⟨d, rfl⟩ := Int.eq_ofNat_of_zero_le h1
  obtain ⟨n, rfl⟩ := Int.eq_ofNat_of_zero_le h2
  obtain ⟨m, rfl⟩ := Int.eq_ofNat_of_zero_le h3
  have hr : 0 ≤ imm % 4096 ∧ imm % 4096 < 4096 := by omega
  have er : (BitVec.ofInt 32 imm &&& 4095#32).toNat = (imm % 4096).toNat := by
    rw [BitVec.toNat_and, BitVec.toNat_ofInt]
    have e5 : (4095#32).toNat = 2 ^ 12 - 1 := rfl
    rw [e5, Nat.and_two_pow_sub_one_eq_mod]
    omega
  rw [BitVec.toNat_or, BitVec.toNat_or, BitVec.toNat_or, BitVec.toNat_or, er]
  have sh : ∀ (x k : Nat), x * 2 ^ k < 4294967296 → (BitVec.ofInt 32 (x : Int) <<< k).toNat = x <<< k := fun x k hx => by
    have hp : 0 < 2 ^ k := Nat.two_pow_pos k
    have hx' : x < 4294967296 := Nat.lt_of_le_of_lt (Nat.le_mul_of_pos_right x hp) hx
    rw [BitVec.toNat_shiftLeft, BitVec.ofInt_natCast, BitVec.toNat_ofNat, Nat.mod_eq_of_lt hx', Nat.shiftLeft_eq, Nat.mod_eq_of_lt hx]
  rw [sh op 27 (by omega), sh d 24 (by omega), sh n 21 (by omega), sh m 18 (by omega), nat_enc op d n m _ (by omega) (by omega) (by omega) (by omega), BitVec.toNat_ofInt]
  omega
/-- the program's word -/
theorem word_own (op d n m imm : Int) (h0 : 0 ≤ op) (h0' : op < 32) (h1 : 0 ≤ d) (h1' : d < 8) (h2 : 0 ≤ n) (h2' : n < 8) (h3 : 0 ≤ m) (h3' : m < 8) :
    (0#64 ||| BitVec.ofInt 64 op <<< 27 ||| BitVec.ofInt 64 d <<< 24 ||| BitVec.ofInt 64 n <<< 21 ||| BitVec.ofInt 64 m <<< 18 ||| (BitVec.ofInt 64 imm &&& 4095#64) <<< 0).setWidth 32 = wordB op d n m imm := by
  apply BitVec.eq_of_toNat_eq
  unfold wordB encI
  obtain ⟨op, rfl⟩ := Int.eq_ofNat_of_zero_le h0
  obtain ⟨d, rfl⟩ := Int.eq_ofNat_of_zero_le h1
  obtain ⟨n, rfl⟩ := Int.eq_ofNat_of_zero_le h2
  obtain ⟨m, rfl⟩ := Int.eq_ofNat_of_zero_le h3
  have hr : 0 ≤ imm % 4096 ∧ imm % 4096 < 4096 := by omega
  have er : ((BitVec.ofInt 64 imm &&& 4095#64) <<< 0).toNat = (imm % 4096).toNat := by
    rw [BitVec.shiftLeft_zero, BitVec.toNat_and, BitVec.toNat_ofInt]
    have e5 : (4095#64).toNat = 2 ^ 12 - 1 := rfl
    rw [e5, Nat.and_two_pow_sub_one_eq_mod]
    omega
  rw [BitVec.zero_or, BitVec.toNat_setWidth, BitVec.toNat_or, BitVec.toNat_or, BitVec.toNat_or, BitVec.toNat_or, er]
  have sh : ∀ (x k : Nat), x * 2 ^ k < 18446744073709551616 → (BitVec.ofInt 64 (x : Int) <<< k).toNat = x <<< k := fun x k hx => by
    have hp : 0 < 2 ^ k := Nat.two_pow_pos k
    have hx' : x < 18446744073709551616 := Nat.lt_of_le_of_lt (Nat.le_mul_of_pos_right x hp) hx
    rw [BitVec.toNat_shiftLeft, BitVec.ofInt_natCast, BitVec.toNat_ofNat, Nat.mod_eq_of_lt hx', Nat.shiftLeft_eq, Nat.mod_eq_of_lt hx]
  rw [sh op 27 (by omega), sh d 24 (by omega), sh n 21 (by omega), sh m 18 (by omega), nat_enc op d n m _ (by omega) (by omega) (by omega) (by omega), BitVec.toNat_ofInt]
  omega
/-- the parts of a word: the reference's -/
theorem opD_ref (w : BitVec 32) : u3 (w >>> 27) = opD w := (u3_shr27 w).symm
theorem and7 (w : BitVec 32) : u3 (w &&& 7#32) = u3 w % 8 := by
  unfold u3; rw [BitVec.toNat_and]
  have e : (7#32).toNat = 2 ^ 3 - 1 := rfl
  rw [e, Nat.and_two_pow_sub_one_eq_mod]; rfl
theorem dD_ref (w : BitVec 32) : u3 (w >>> 24 &&& 7#32) = dD w := by rw [and7, ← u3_shr24]; rfl
theorem nD_ref (w : BitVec 32) : u3 (w >>> 21 &&& 7#32) = nD w := by rw [and7, ← u3_shr21]; rfl
theorem mD_ref (w : BitVec 32) : u3 (w >>> 18 &&& 7#32) = mD w := by rw [and7, ← u3_shr18]; rfl
theorem and4095 (w : BitVec 32) : u3 (w &&& 4095#32) = u3 w % 4096 := by
  unfold u3; rw [BitVec.toNat_and]
  have e : (4095#32).toNat = 2 ^ 12 - 1 := rfl
  rw [e, Nat.and_two_pow_sub_one_eq_mod]; rfl
theorem opD_bd (w : BitVec 32) : 0 ≤ opD w ∧ opD w < 32 := by unfold opD; have := u3_lt w; omega
theorem dD_bd (w : BitVec 32) : 0 ≤ dD w ∧ dD w < 8 := by unfold dD; omega
theorem nD_bd (w : BitVec 32) : 0 ≤ nD w ∧ nD w < 8 := by unfold nD; omega
theorem mD_bd (w : BitVec 32) : 0 ≤ mD w ∧ mD w < 8 := by unfold mD; omega
theorem immD_bd (w : BitVec 32) : -2048 ≤ immD w ∧ immD w ≤ 2047 := by unfold immD; split <;> omega
/-- the parts of a word: the program's -/
theorem getB_own (w : BitVec 32) (a k : Nat) (hk : k ≤ 32) : uv (getB (w.setWidth 64) a k) = u3 w / 2 ^ a % 2 ^ k := by
  have hl : (lowB (k : Int)).toNat = 2 ^ k - 1 := by
    have h := lowB_sub k (by omega)
    rw [← h, BitVec.toNat_sub, BitVec.toNat_shiftLeft, Nat.shiftLeft_eq]
    have h1 : (2 : Nat) ^ k < 2 ^ 64 := Nat.pow_lt_pow_right (by omega) (by omega)
    have h2 : 0 < (2 : Nat) ^ k := Nat.two_pow_pos _
    have e2 : (1#64).toNat = 1 := rfl
    rw [e2, Nat.one_mul, Nat.mod_eq_of_lt h1]
    omega
  unfold getB uv u3
  rw [BitVec.toNat_and, hl, Nat.and_two_pow_sub_one_eq_mod, BitVec.toNat_ushiftRight, BitVec.toNat_setWidth, Nat.shiftRight_eq_div_pow, Int.toNat_natCast]
  have hw := w.isLt
  have : w.toNat % 2 ^ 64 = w.toNat := Nat.mod_eq_of_lt (by omega)
  rw [this]
  simp
theorem sv_small (x : BitVec 64) (h : uv x < 9223372036854775808) : sv x = uv x := by
  rw [← sv_i64, IntKind.wrap_i64]; have := uv_lt x; omega
theorem opD_own (w : BitVec 32) : sv (getB (w.setWidth 64) 27 5) = opD w := by
  have h := getB_own w 27 5 (by omega)
  have hw := u3_lt w
  have e : uv (getB (w.setWidth 64) 27 5) = opD w := by rw [show (27 : Int) = ((27 : Nat) : Int) from rfl, show (5 : Int) = ((5 : Nat) : Int) from rfl, h]; unfold opD; omega
  have := opD_bd w
  rw [sv_small _ (by rw [e]; omega), e]
theorem part_own (w : BitVec 32) (a : Nat) : sv (getB (w.setWidth 64) a 3) = u3 w / 2 ^ a % 8 := by
  have h := getB_own w a 3 (by omega)
  have e : uv (getB (w.setWidth 64) a 3) = u3 w / 2 ^ a % 8 := by rw [show (3 : Int) = ((3 : Nat) : Int) from rfl, h]; rfl
  rw [sv_small _ (by rw [e]; omega), e]
theorem dD_own (w : BitVec 32) : sv (getB (w.setWidth 64) 24 3) = dD w := part_own w 24
theorem nD_own (w : BitVec 32) : sv (getB (w.setWidth 64) 21 3) = nD w := part_own w 21
theorem mD_own (w : BitVec 32) : sv (getB (w.setWidth 64) 18 3) = mD w := part_own w 18
theorem immD_own (w : BitVec 32) : sv (signB (w.setWidth 64) 12) = immD w := by
  have hs := sign_eq (w.setWidth 64) 12 (by omega) (by omega)
  have hl : (lowB ((12 : Nat) : Int)) = 4095#64 := rfl
  rw [hl] at hs
  have hr : (w.setWidth 64 &&& 4095#64).toNat = w.toNat % 4096 := by
    rw [BitVec.toNat_and, BitVec.toNat_setWidth]
    have e : (4095#64).toNat = 2 ^ 12 - 1 := rfl
    have hw := w.isLt
    rw [e, Nat.and_two_pow_sub_one_eq_mod]
    omega
  have hc : ((w.setWidth 64 &&& 4095#64) >>> (12 - 1) = 1#64) ↔ 2047 < w.toNat % 4096 := by
    rw [← BitVec.toNat_inj, BitVec.toNat_ushiftRight, hr, Nat.shiftRight_eq_div_pow]
    have e : (1#64).toNat = 1 := rfl
    rw [e]
    omega
  have hu : u3 w % 4096 = ((w.toNat % 4096 : Nat) : Int) := by unfold u3; omega
  show sv (signB (w.setWidth 64) ((12 : Nat) : Int)) = immD w
  rw [hs]
  unfold immD
  rw [hu]
  by_cases h : 2047 < w.toNat % 4096
  · rw [if_pos (hc.2 h), if_pos (by omega)]
    have hor : (w.setWidth 64 &&& 4095#64) ||| ~~~4095#64 = (w.setWidth 64 &&& 4095#64) + ~~~4095#64 := by
      rw [BitVec.add_eq_or_of_and_eq_zero]
      rw [BitVec.and_assoc]
      have : 4095#64 &&& ~~~4095#64 = 0#64 := by decide
      rw [this, BitVec.and_zero]
    rw [hor]
    unfold sv
    rw [BitVec.toInt_eq_toNat_cond, BitVec.toNat_add, hr]
    have e : (~~~4095#64).toNat = 18446744073709547520 := rfl
    rw [e]
    split <;> omega
  · rw [if_neg (fun e => h (hc.1 e)), if_neg (by omega)]
    unfold sv
    rw [BitVec.toInt_eq_toNat_cond, hr]
    split <;> omega
/-- a word is read as what it is of -/
theorem dec_enc (op d n m imm : Int) (h0 : 0 ≤ op) (h0' : op < 32) (h1 : 0 ≤ d) (h1' : d < 8) (h2 : 0 ≤ n) (h2' : n < 8) (h3 : 0 ≤ m) (h3' : m < 8) (h4 : -2048 ≤ imm) (h4' : imm ≤ 2047) :
    opD (wordB op d n m imm) = op ∧ dD (wordB op d n m imm) = d ∧ nD (wordB op d n m imm) = n ∧ mD (wordB op d n m imm) = m ∧ immD (wordB op d n m imm) = imm := by
  have e : u3 (wordB op d n m imm) = encI op d n m imm := by
    unfold wordB
    rw [← u3_ofInt, IntKind.wrap_u32']
    unfold encI
    omega
  unfold opD dD nD mD immD
  rw [e]
  unfold encI
  refine ⟨by omega, by omega, by omega, by omega, ?_⟩
  split <;> omega
end Go.Proofs.Ytmbgcfgmoepgbaa
