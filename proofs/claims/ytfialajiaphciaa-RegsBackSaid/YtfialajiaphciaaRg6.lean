/- The contracts of Next, package regs' and the reference's. -/
import Derived.Test.YtfialajiaphciaaRg
import Derived.Test.YtfialajiaphciaaBlkr
namespace Go.Proofs.Ytfialajiaphciaa
open Go.RowKit
attribute [local go_sem] uv_and uv_or uv_xor uv_andNot uv_shr uv_shl uv_add uv_sub uv_neg uv_beq uv_beq0 uv_beq1 uv_bne uv_bne0 u64_signed uv_not sv_i64 sv_shr uv_sv ones_shr sv_w64 uv_and1 uv_mul4 uv_4mul uv_add4

theorem rg_one (r : RG) : (rgA r).all (·.oneCell') = true := by simp [rgA, Value.oneCell']
/-- a row of ints in memory -/
def IntsL (w : World) (p : Option Addr) (ns : List Int) : Prop :=
  ∃ fb fo, (0 < ns.length → p = some ⟨fb, fo, none⟩) ∧ ∀ j n, ns[j]? = some n → w.cell? ⟨fb, fo + j, none⟩ = some (.int .i64 n)
theorem ints_later {w w1 : World} {p : Option Addr} {ns : List Int} (h : IntsL w p ns) (hb : Below w.heap.size w w1) : IntsL w1 p ns := by
  obtain ⟨fb, fo, hp, hf⟩ := h
  exact ⟨fb, fo, hp, fun j n hj => cell_later hb (hf j n hj)⟩
def stepN (a : BitVec 64) (n : Int) : BitVec 64 := a + BitVec.ofInt 64 n * 4#64
def nextV (pc : BitVec 64) (ns : List Int) : BitVec 64 := ns.foldl stepN (pc + 4#64)
theorem next_step {pc : BitVec 64} {ns : List Int} {k : Nat} {n : Int} (h : ns[k]? = some n) : nextV pc (ns.take (k + 1)) = stepN (nextV pc (ns.take k)) n := by
  rw [List.take_add_one, h]
  unfold nextV
  rw [List.foldl_append]; rfl
set_option maxRecDepth 100000 in
set_option maxHeartbeats 4000000 in
theorem gnext (r : RG) (p : Option Addr) (l c : Nat) (ns : List Int) (w : World) (hl : ns.length = l) (hm : l ≤ 300) (hns : IntsL w p ns) :
    Calls Try.prog 36 #[.agg (rgA r), .slice p l c] w fun e w' => e = .returned (.agg (rgA { r with pc := nextV r.pc ns })) ∧ Below w.heap.size w w' := by
  obtain ⟨fb, fo, hp, hf⟩ := hns
  subst hl
  have HP := Lib.hid hp
  have HF := Lib.hid hf
  clear hp hf
  unfold rgA
  go_enter Try.func36, Try.ntmps36
  go_wp2
  go_loopw [13] (fun i wr => ∃ k : Nat, k ≤ ns.length ∧ i = .int .i64 k ∧ (Below w.heap.size w wr ∧ w.heap.size ≤ wr.heap.size) ∧ Blk wr w.heap.size (rgA { r with pc := nextV r.pc (ns.take k) }) ∧ Blk wr (w.heap.size + 1) (rgA zeroRG)) (fun i _ => ns.length - (intOf i).toNat)
  case atStart => exact ⟨0, Nat.zero_le _, rfl, ⟨two_new, by simp; omega⟩, (Blk.new w _ _).alloc _, Blk.new_at _ _ _ _ (by simp)⟩
  case round =>
    obtain ⟨k, hk, rfl, ⟨hB, hz⟩, hR, hA⟩ := hrel
    by_cases hlt : k < ns.length
    · obtain ⟨n, hkn⟩ : ∃ f, ns[k]? = some f := ⟨_, List.getElem?_eq_getElem hlt⟩
      obtain rfl := HP.out (by omega)
      have e0 := HF.out k n hkn
      have e1 := (hB.cell (p := ⟨fb, fo + k, none⟩) (World.block_lt_of_cell? _ _ e0)).trans e0
      have k0 : (0 : Int) ≤ (k : Int) := Int.natCast_nonneg _
      have k1 : (k : Int) < (ns.length : Int) := by omega
      have i1 := uv_ofInt n
      have c8 : wr.cell? ⟨w.heap.size, 8, none⟩ = some (.int .u64 (uv (nextV r.pc (ns.take k)))) := hR.cell 8
      have f8 := hR.frozen 8
      have HK := Lib.hid hkn
      have HR := Lib.hid hR
      have HA := Lib.hid hA
      clear e0 hkn hR hA
      go_wp2
      go_roundw
      case rel =>
        refine ⟨k + 1, by omega, by go_num, ⟨hB.setCell (Nat.le_refl _) _, by simpa using hz⟩, ?_, HA.out.set_ne (by omega) _ _⟩
        rw [next_step HK.out]
        exact HR.out.set 8 _
      case measure => simp [intOf]; omega
    · obtain rfl : k = ns.length := by omega
      rw [List.take_length] at hR
      have HR := Lib.hid hR
      have HA := Lib.hid hA
      clear hR hA
      obtain ⟨t1, g1⟩ := HR.out
      obtain ⟨t2, g2⟩ := HA.out
      have G1 := Lib.hid g1
      have G2 := Lib.hid g2
      clear g1 g2
      go_wp2_with (first
        | (refine wpList_load_row rfl 60 _ rfl w.heap.size rfl t1 _ (0, 0) _ G1.out Try.underlying60 rfl (by kernel_rfl) ?_)
        | (refine wpList_store_row rfl 60 _ _ rfl (w.heap.size + 1) (rgA { r with pc := nextV r.pc ns }) rfl rfl t2 _ G2.out (by kernel_rfl) rfl (rg_one _) ?_))
      refine bodyPost_ret (v := .agg (rgA { r with pc := nextV r.pc ns })) (results_cell_row Try.results36 _ _ (w.heap.size + 1) t2 (rgA { r with pc := nextV r.pc ns }) (0, 0) _ rfl (setRow_heap _ _ _ _ _ _ G2.out) Try.underlying60 rfl (by kernel_rfl)) rfl ⟨rfl, below_setRow hB (by omega) _⟩
end Go.Proofs.Ytfialajiaphciaa
