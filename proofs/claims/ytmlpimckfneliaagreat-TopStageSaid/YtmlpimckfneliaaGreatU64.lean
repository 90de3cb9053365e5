/- Words of 64 bits as bit vectors behind a plain name, with the rules by which the walk writes them. No conditions. -/
import Derived.WalkKit
import Derived.WalkSpells
import Derived.Lib.Hide
import Derived.WalkLawsBesides
import Derived.Deep.QuietTactic
import Derived.Deep.RegionHeld3
import Derived.BigQuiet
import Derived.Outline
import Derived.IntWalk
namespace Go.Proofs.YtmlpimckfneliaaGreat
open Go.RowKit

def uv (x : BitVec 64) : Int := (x.toNat : Int)
def sv (x : BitVec 64) : Int := x.toInt

theorem uv_lt (x : BitVec 64) : 0 ≤ uv x ∧ uv x < 18446744073709551616 := by
  unfold uv; have := x.isLt; omega
theorem uv_inj {x y : BitVec 64} : uv x = uv y ↔ x = y := by
  unfold uv; constructor
  · intro h; apply BitVec.eq_of_toNat_eq; omega
  · rintro rfl; rfl
theorem uv_ofInt (n : Int) : IntKind.u64.wrap n = uv (BitVec.ofInt 64 n) := by
  rw [IntKind.wrap_u64]; unfold uv; rw [BitVec.toNat_ofInt]; omega
theorem uv_ofNat (n : Nat) (h : n < 18446744073709551616) : ((n : Nat) : Int) = uv (BitVec.ofNat 64 n) := by
  unfold uv; rw [BitVec.toNat_ofNat, Nat.mod_eq_of_lt h]
theorem uv_and (x y : BitVec 64) : bits .and .u64 (uv x) (uv y) = uv (x &&& y) := by
  unfold uv; rw [u64_and_nat _ _ x.isLt y.isLt, BitVec.toNat_and]
theorem uv_or (x y : BitVec 64) : bits .or .u64 (uv x) (uv y) = uv (x ||| y) := by
  unfold uv; rw [u64_or_nat _ _ x.isLt y.isLt, BitVec.toNat_or]
theorem uv_xor (x y : BitVec 64) : bits .xor .u64 (uv x) (uv y) = uv (x ^^^ y) := by
  unfold uv; rw [u64_xor_nat _ _ x.isLt y.isLt, BitVec.toNat_xor]
theorem uv_andNot (x y : BitVec 64) : bits .andNot .u64 (uv x) (uv y) = uv (x &&& ~~~y) := by
  unfold uv; rw [u64_andNot_nat _ _ x.isLt y.isLt, BitVec.toNat_and, BitVec.toNat_not]
theorem uv_shr (x : BitVec 64) (n : Nat) : uv x / 2 ^ n = uv (x >>> n) := by
  unfold uv; rw [BitVec.toNat_ushiftRight, Nat.shiftRight_eq_div_pow]; simp
theorem uv_shl (x : BitVec 64) (n : Nat) : IntKind.u64.wrap (uv x * 2 ^ n) = uv (x <<< n) := by
  rw [IntKind.wrap_u64]; unfold uv; rw [BitVec.toNat_shiftLeft, Nat.shiftLeft_eq]; simp
theorem uv_add (x y : BitVec 64) : IntKind.u64.wrap (uv x + uv y) = uv (x + y) := by
  rw [IntKind.wrap_u64]; unfold uv; rw [BitVec.toNat_add]; simp
theorem uv_sub (x y : BitVec 64) : IntKind.u64.wrap (uv x - uv y) = uv (x - y) := by
  rw [IntKind.wrap_u64]; unfold uv; rw [BitVec.toNat_sub]; have := x.isLt; have := y.isLt; omega
theorem uv_neg (x : BitVec 64) : IntKind.u64.wrap (-uv x) = uv (-x) := by
  rw [IntKind.wrap_u64]; unfold uv; rw [BitVec.toNat_neg]; have := x.isLt; omega
theorem uv_beq (x y : BitVec 64) : (uv x == uv y) = (x == y) := by
  rw [Bool.eq_iff_iff]; simp [uv_inj]
theorem uv_beq0 (x : BitVec 64) : (uv x == 0) = (x == 0#64) := by
  rw [← uv_beq]; rfl
theorem uv_beq1 (x : BitVec 64) : (uv x == 1) = (x == 1#64) := by
  rw [← uv_beq]; rfl
theorem uv_bne (x y : BitVec 64) : (uv x != uv y) = (x != y) := by
  simp only [bne, uv_beq]
theorem uv_bne0 (x : BitVec 64) : (uv x != 0) = (x != 0#64) := by
  rw [← uv_bne]; rfl
theorem u64_signed : IntKind.u64.signed = false := rfl
theorem uv_not (x : BitVec 64) : bits .xor .u64 IntKind.u64.max (uv x) = uv (~~~x) := by
  have e : IntKind.u64.max = uv (BitVec.allOnes 64) := rfl
  rw [e, uv_xor, BitVec.allOnes_xor]
theorem sv_i64 (x : BitVec 64) : IntKind.i64.wrap (uv x) = sv x := by
  rw [IntKind.wrap_i64]; unfold uv sv; rw [BitVec.toInt_eq_toNat_cond]; have := x.isLt; split <;> omega
theorem sv_shr (x : BitVec 64) (n : Nat) : sv x / 2 ^ n = sv (x.sshiftRight n) := by
  unfold sv; rw [BitVec.toInt_sshiftRight, Int.shiftRight_eq_div_pow]; simp
theorem uv_sv (x : BitVec 64) : IntKind.u64.wrap (sv x) = uv x := by
  rw [uv_ofInt]; unfold sv; rw [BitVec.ofInt_toInt]

theorem ones_shr (k : Nat) : (18446744073709551615 : Int) / 2 ^ k = uv (18446744073709551615#64 >>> k) := by
  rw [← uv_shr]; rfl

theorem bcell {W w1 : World} (hb : Below W.heap.size W w1) : (∀ b o, b < W.heap.size → w1.cell? ⟨b, o, none⟩ = W.cell? ⟨b, o, none⟩) ∧ (∀ b o, b < W.heap.size → w1.frozen? ⟨b, o, none⟩ = W.frozen? ⟨b, o, none⟩) :=
  ⟨fun b o h => hb.cell (p := ⟨b, o, none⟩) h, fun b o h => hb.frozen (p := ⟨b, o, none⟩) h⟩

theorem cell3 {w w1 : World} {x y z : Value} {t : TypeId} {B k : Nat} (hb : Below B (w.alloc (.cells #[x, y, z] t)) w1) (hB : B = (w.alloc (.cells #[x, y, z] t)).heap.size) (hk : w.heap.size = k) :
    w1.cell? ⟨k, 0, none⟩ = some x ∧ w1.cell? ⟨k, 1, none⟩ = some y ∧ w1.cell? ⟨k, 2, none⟩ = some z ∧ k < w1.heap.size := by
  subst hB hk
  have hs := hb.size
  refine ⟨?_, ?_, ?_, by simp at hs; omega⟩
  · rw [hb.cell (by simp)]; simp [go_sem]
  · rw [hb.cell (by simp)]; simp [go_sem]
  · rw [hb.cell (by simp)]; simp [go_sem]
theorem later4 {w w1 : World} {x y z u : Value} {k : Nat} (hb : Below w.heap.size w w1) (h0 : w.cell? ⟨k, 0, none⟩ = some x) (h1 : w.cell? ⟨k, 1, none⟩ = some y) (h2 : w.cell? ⟨k, 2, none⟩ = some z) (h3 : w.cell? ⟨k, 3, none⟩ = some u) :
    w1.cell? ⟨k, 0, none⟩ = some x ∧ w1.cell? ⟨k, 1, none⟩ = some y ∧ w1.cell? ⟨k, 2, none⟩ = some z ∧ w1.cell? ⟨k, 3, none⟩ = some u :=
  ⟨cell_later hb h0, cell_later hb h1, cell_later hb h2, cell_later hb h3⟩
theorem new4 {w w1 : World} {x y z u : Value} {t : TypeId} (hb : Below (w.alloc (.cells #[x, y, z, u] t)).heap.size (w.alloc (.cells #[x, y, z, u] t)) w1) :
    w1.cell? ⟨w.heap.size, 0, none⟩ = some x ∧ w1.cell? ⟨w.heap.size, 1, none⟩ = some y ∧ w1.cell? ⟨w.heap.size, 2, none⟩ = some z ∧ w1.cell? ⟨w.heap.size, 3, none⟩ = some u := by
  refine ⟨?_, ?_, ?_, ?_⟩
  · rw [hb.cell (by simp)]; simp [go_sem]
  · rw [hb.cell (by simp)]; simp [go_sem]
  · rw [hb.cell (by simp)]; simp [go_sem]
  · rw [hb.cell (by simp)]; simp [go_sem]
theorem below_new {B : Nat} {w wr w1 : World} {o : Obj} (h : Below B w wr) (hB : B ≤ wr.heap.size) (hb : Below (wr.alloc o).heap.size (wr.alloc o) w1) : Below B w w1 ∧ B ≤ w1.heap.size :=
  ⟨(h.alloc hB o).trans (hb.mono (by simp; omega)), by have := hb.size; simp at this; omega⟩
theorem below_next {B : Nat} {w wr w1 : World} (h : Below B w wr) (hB : B ≤ wr.heap.size) (hb : Below wr.heap.size wr w1) : Below B w w1 ∧ B ≤ w1.heap.size :=
  ⟨h.trans (hb.mono hB), by have := hb.size; omega⟩
theorem quiet_left {P : Program} {f : FuncId} {args : Array Value} {w : World} {n : Nat} {v : Value}
    (h : Calls P f args (w.drewN n) fun e w' => e = .returned v ∧ w.drewN n = w') : Calls P f args (w.drewN n) fun e w'' => e = .returned v ∧ ∃ m, w'' = w.drewN m :=
  h.mono fun _ _ ⟨he, hm⟩ => ⟨he, n, hm.symm⟩
/-- the mask of so many lowest bits -/
def lowB (n : Int) : BitVec 64 := 18446744073709551615#64 >>> (64 - n).toNat
theorem uv_one_shl (n : Nat) : IntKind.u64.wrap (2 ^ n) = uv (1#64 <<< n) := by
  rw [← uv_shl]
  have : uv 1#64 = 1 := rfl
  rw [this, Int.one_mul]
theorem low_bits (n : Nat) (h : n ≤ 64) (i : Nat) : (lowB n).getLsbD i = decide (i < n) := by
  unfold lowB
  have e : (18446744073709551615#64) = BitVec.allOnes 64 := rfl
  rw [e, BitVec.getLsbD_ushiftRight, BitVec.getLsbD_allOnes]
  congr 1
  rw [eq_iff_iff]
  omega
theorem lowB_sub (n : Nat) (h : n < 64) : (1#64 <<< n) - 1#64 = lowB n := by
  apply BitVec.eq_of_toNat_eq
  unfold lowB
  rw [BitVec.toNat_ushiftRight, Nat.shiftRight_eq_div_pow, BitVec.toNat_sub, BitVec.toNat_shiftLeft, Nat.shiftLeft_eq]
  have h1 : (2 : Nat) ^ n < 2 ^ 64 := Nat.pow_lt_pow_right (by omega) h
  have h2 : (64 - (n : Int)).toNat = 64 - n := by omega
  have h3 : (2 : Nat) ^ n * 2 ^ (64 - n) = 2 ^ 64 := by rw [← Nat.pow_add]; congr 1; omega
  have h4 : 0 < (2 : Nat) ^ (64 - n) := Nat.two_pow_pos _
  have h5 : 0 < (2 : Nat) ^ n := Nat.two_pow_pos _
  rw [h2]
  have e1 : (18446744073709551615#64).toNat = 2 ^ 64 - 1 := rfl
  have e2 : (1#64).toNat = 1 := rfl
  rw [e1, e2, Nat.one_mul, Nat.mod_eq_of_lt h1]
  have e3 : (2 ^ 64 - 1) / 2 ^ (64 - n) = 2 ^ n - 1 := by
    apply Nat.div_eq_of_lt_le
    · have : (2 ^ n - 1) * 2 ^ (64 - n) = 2 ^ 64 - 2 ^ (64 - n) := by rw [Nat.sub_mul, h3, Nat.one_mul]
      omega
    · have : (2 ^ n - 1 + 1) * 2 ^ (64 - n) = 2 ^ 64 := by rw [Nat.sub_add_cancel h5, h3]
      omega
  rw [e3]
  omega
theorem uv_mask (n : Nat) (h : n < 64) : IntKind.u64.wrap (IntKind.u64.wrap (2 ^ n) - 1) = uv (lowB n) := by
  rw [uv_one_shl, ← lowB_sub n h, ← uv_sub]; rfl
/-- the number that the lowest bits are -/
def signB (v : BitVec 64) (n : Int) : BitVec 64 := (v <<< (64 - n).toNat).sshiftRight (64 - n).toNat
theorem sign_eq (v : BitVec 64) (n : Nat) (h1 : 1 ≤ n) (h : n ≤ 64) :
    signB v n = if (v &&& lowB n) >>> (n - 1) = 1#64 then (v &&& lowB n) ||| ~~~lowB n else v &&& lowB n := by
  have hm : ((v &&& lowB n) >>> (n - 1) = 1#64) ↔ v.getLsbD (n - 1) = true := by
    constructor
    · intro e
      have := congrArg (fun x : BitVec 64 => x.getLsbD 0) e
      simpa [low_bits n h, (by omega : n - 1 < n)] using this
    · intro e
      apply BitVec.eq_of_getLsbD_eq
      intro i hi
      rw [BitVec.getLsbD_ushiftRight, BitVec.getLsbD_and, low_bits n h]
      by_cases hi0 : i = 0
      · subst hi0; simp [e, (by omega : n - 1 < n)]
      · have : ¬ (n - 1 + i < n) := by omega
        simp [this, hi0]
  apply BitVec.eq_of_getLsbD_eq
  intro i hi
  have hk : (64 - (n : Int)).toNat = 64 - n := by omega
  unfold signB
  rw [hk, BitVec.getLsbD_sshiftRight, BitVec.getLsbD_shiftLeft, BitVec.msb_shiftLeft]
  by_cases hb0 : (v &&& lowB n) >>> (n - 1) = 1#64
  · rw [if_pos hb0]; have hb := hm.1 hb0
    rw [BitVec.getLsbD_or, BitVec.getLsbD_and, BitVec.getLsbD_not, low_bits n h]
    by_cases hin : i < n
    · have e1 : 64 - n + i < 64 := by omega
      have e2 : ¬ (64 - n + i < 64 - n) := by omega
      have e3 : 64 - n + i - (64 - n) = i := by omega
      simp [hin, e1, e2, e3, hi]
    · have e1 : ¬ (64 - n + i < 64) := by omega
      simp [hin, e1, hi, BitVec.getMsbD, (by omega : 64 - n < 64), (by omega : 64 - 1 - (64 - n) = n - 1), hb]
  · rw [if_neg hb0]; have hb : v.getLsbD (n - 1) = false := by simpa using fun e => hb0 (hm.2 e)
    rw [BitVec.getLsbD_and, low_bits n h]
    by_cases hin : i < n
    · have e1 : 64 - n + i < 64 := by omega
      have e2 : ¬ (64 - n + i < 64 - n) := by omega
      have e3 : 64 - n + i - (64 - n) = i := by omega
      simp [hin, e1, e2, e3, hi]
    · have e1 : ¬ (64 - n + i < 64) := by omega
      simp [hin, e1, hi, BitVec.getMsbD, (by omega : 64 - n < 64), (by omega : 64 - 1 - (64 - n) = n - 1), hb]
/-- may a place be? -/
def fitsB (a n : Int) : Bool := decide (0 ≤ a ∧ a ≤ 63 ∧ 1 ≤ n ∧ n ≤ 64 - a)
/-- may a field be? -/
def mayB (a n : Int) (v : BitVec 64) : Bool := fitsB a n && (v &&& ~~~lowB n == 0#64)
def maskB (a n : Int) : BitVec 64 := lowB n <<< a.toNat
def getB (v : BitVec 64) (a n : Int) : BitVec 64 := v >>> a.toNat &&& lowB n
def putB (v : BitVec 64) (a n : Int) (x : BitVec 64) : BitVec 64 := v &&& ~~~maskB a n ||| x <<< a.toNat

theorem fitsB_yes {a n : Int} (h : fitsB a n = true) : 0 ≤ a ∧ a ≤ 63 ∧ 1 ≤ n ∧ n ≤ 64 - a := by simpa [fitsB] using h
theorem fitsB_no {a n : Int} (h : fitsB a n = false) : n < 1 ∨ (1 ≤ n ∧ 64 < n) ∨ (1 ≤ n ∧ n ≤ 64 ∧ a < 0) ∨ (1 ≤ n ∧ n ≤ 64 ∧ 0 ≤ a ∧ 64 - n < a) := by
  have h' : ¬ (0 ≤ a ∧ a ≤ 63 ∧ 1 ≤ n ∧ n ≤ 64 - a) := by simpa [fitsB] using h
  omega
end Go.Proofs.YtmlpimckfneliaaGreat
