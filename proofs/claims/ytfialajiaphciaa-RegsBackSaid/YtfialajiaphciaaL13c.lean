/- What the walks over registers share. -/
import Derived.Test.YtfialajiaphciaaL13a
import Derived.Test.YtfialajiaphciaaLoads
import Derived.Deep.RegionWith
namespace Go.Proofs.Ytfialajiaphciaa.law13
open Go.RowKit
attribute [local go_sem] uv_and uv_or uv_xor uv_andNot uv_shr uv_shl uv_add uv_sub uv_neg uv_beq uv_beq0 uv_beq1 uv_bne uv_bne0 u64_signed uv_not sv_i64 sv_shr uv_sv ones_shr sv_w64 uv_and1

theorem ask_row {w : World} {b o : Nat} {r : RG} {K : Int} {V : BitVec 64} {p : Option Addr} {l c : Nat} (h : AskAt w b o r K V p l c) : RowAt w b o (askA r K V p l c) := fun j v hj => by
  have hj18 : j < 18 := by
    rcases Nat.lt_or_ge j 18 with h | h
    · exact h
    · rw [Array.getElem?_eq_none (by simpa [askA] using h)] at hj; cases hj
  rw [h j hj18, hj]
theorem ask_one (r : RG) (K : Int) (V : BitVec 64) (p : Option Addr) (l c : Nat) : (askA r K V p l c).all (·.oneCell') = true := by simp [askA, Value.oneCell']

theorem ask_regs (r : RG) (K : Int) (V : BitVec 64) (p : Option Addr) (l c : Nat) (j : Nat) (v : Value) (h : (rgA r)[j]? = some v) : (askA r K V p l c)[0 + j]? = some v := by
  have hj : j < 15 := by
    rcases Nat.lt_or_ge j 15 with h' | h'
    · exact h'
    · rw [Array.getElem?_eq_none (by simpa [rgA] using h')] at h; cases h
  rw [Nat.zero_add, ← h]
  have : j = 0 ∨ j = 1 ∨ j = 2 ∨ j = 3 ∨ j = 4 ∨ j = 5 ∨ j = 6 ∨ j = 7 ∨ j = 8 ∨ j = 9 ∨ j = 10 ∨ j = 11 ∨ j = 12 ∨ j = 13 ∨ j = 14 := by omega
  rcases this with rfl | rfl | rfl | rfl | rfl | rfl | rfl | rfl | rfl | rfl | rfl | rfl | rfl | rfl | rfl <;> rfl
theorem set_no (r : RG) (k : Int) (v : BitVec 64) (w : World) (h : btwB k 0 5 = false) :
    Calls Try.prog 25 #[.agg (rgA r), .int .i64 k, .int .u64 (uv v)] w fun e w' => e = .returned (.tuple #[.agg (rgA zeroRG), .int .i64 1]) ∧ Below w.heap.size w w' := gset_no r k v w h
theorem box_regs {w : World} {g : Nat} {r : RG} {K : Int} {V : BitVec 64} {p : Option Addr} {l c : Nat} (h : Blk w g (askA r K V p l c)) : RowAt w g 0 (rgA r) := h.rowAt.part 0 _ (ask_regs r K V p l c)

theorem run_store_rg {P : Program} {w : World} {g : Nat} {old : Array Value} (h : Blk w g old) (vs : Array Value) (hs : old.size = vs.size) (h1 : vs.all (·.oneCell') = true) :
    (storeCells ⟨g, 0, none⟩ vs.toList).run P w = .ok () (w.setRow g vs) := by
  obtain ⟨t, h⟩ := h
  have := run_storeCells_from (P := P) g t vs.toList 0 old w h (by simp; omega) (fun v hv => (Array.all_eq_true_iff_forall_mem.1 h1) v (by simpa using hv))
  simpa using this
theorem cell_row {w : World} {g k j : Nat} {vs : Array Value} {v : Value} (hk : k ≠ g) (h : w.cell? ⟨g, j, none⟩ = some v) : (w.setRow k vs).cell? ⟨g, j, none⟩ = some v :=
  (World.cell?_of_block (setRow_other w k g vs (by omega))).trans h
theorem ints_nil (w : World) : IntsL w none [] := ⟨0, 0, fun h => by simp at h, fun j n hj => by simp at hj⟩
/-- registers are read whole -/
def ldR (g : Nat) : Sem Value := Instr.loadAt 60 (.pointer (some ⟨g, 0, none⟩))
def ldV (x : Value) : Sem Value := Instr.loadAt 60 x
theorem ldV_fold (x : Value) : Instr.loadAt 60 x = ldV x := rfl
theorem ldV_at (g : Nat) : ldV (.pointer (some ⟨g, 0, none⟩)) = ldR g := rfl
theorem load_regs {w : World} {g : Nat} {r : RG} (h : RowAt w g 0 (rgA r)) : (ldR g).run Try.prog w = .ok (.agg (rgA r)) w := by
  unfold ldR
  simp only [Instr.loadAt, Instr.sureAddr, Sem.run_bind, Sem.run_pure, Result.andThen_ok, run_loadVar_at (P := Try.prog) w g 0 60 (rgA r) _ h Try.underlying60 rfl (by kernel_rfl)]
theorem reg_all {w : World} {g : Nat} {r : RG} {K : Int} {V : BitVec 64} {p : Option Addr} {l c : Nat} (h : Blk w g (askA r K V p l c)) :
    RowAt w g 0 (rgA r) ∧ (ldR g).run Try.prog w = .ok (.agg (rgA r)) w ∧ w.cell? ⟨g, 15, none⟩ = some (.int .i64 K) ∧ w.cell? ⟨g, 16, none⟩ = some (.int .u64 (uv V)) ∧ w.cell? ⟨g, 17, none⟩ = some (.slice p l c) := ⟨box_regs h, load_regs (box_regs h), h.cell 15, h.cell 16, h.cell 17⟩
theorem reg_on {w w1 : World} {g : Nat} {r : RG} {K : Int} {V : BitVec 64} {p : Option Addr} {l c : Nat} (hb : Below w.heap.size w w1) (h : RowAt w g 0 (rgA r) ∧ (ldR g).run Try.prog w = .ok (.agg (rgA r)) w ∧ w.cell? ⟨g, 15, none⟩ = some (.int .i64 K) ∧ w.cell? ⟨g, 16, none⟩ = some (.int .u64 (uv V)) ∧ w.cell? ⟨g, 17, none⟩ = some (.slice p l c)) :
    RowAt w1 g 0 (rgA r) ∧ (ldR g).run Try.prog w1 = .ok (.agg (rgA r)) w1 ∧ w1.cell? ⟨g, 15, none⟩ = some (.int .i64 K) ∧ w1.cell? ⟨g, 16, none⟩ = some (.int .u64 (uv V)) ∧ w1.cell? ⟨g, 17, none⟩ = some (.slice p l c) :=
  ⟨h.1.next hb, load_regs (h.1.next hb), cell_later hb h.2.2.1, cell_later hb h.2.2.2.1, cell_later hb h.2.2.2.2⟩
theorem reg_drew {w : World} {g : Nat} {r : RG} {K : Int} {V : BitVec 64} {p : Option Addr} {l c : Nat} (h : RowAt w g 0 (rgA r) ∧ (ldR g).run Try.prog w = .ok (.agg (rgA r)) w ∧ w.cell? ⟨g, 15, none⟩ = some (.int .i64 K) ∧ w.cell? ⟨g, 16, none⟩ = some (.int .u64 (uv V)) ∧ w.cell? ⟨g, 17, none⟩ = some (.slice p l c)) :
    RowAt w.drew g 0 (rgA r) ∧ (ldR g).run Try.prog w.drew = .ok (.agg (rgA r)) w.drew ∧ w.drew.cell? ⟨g, 15, none⟩ = some (.int .i64 K) ∧ w.drew.cell? ⟨g, 16, none⟩ = some (.int .u64 (uv V)) ∧ w.drew.cell? ⟨g, 17, none⟩ = some (.slice p l c) :=
  ⟨h.1, load_regs (show RowAt w.drew g 0 (rgA r) from h.1), h.2.2.1, h.2.2.2.1, h.2.2.2.2⟩
theorem row_row {w : World} {g k o : Nat} {cs vs : Array Value} (hk : k ≠ g) (h : RowAt w g o cs) : RowAt (w.setRow k vs) g o cs := fun j v hj => cell_row hk (h j v hj)
theorem reg_row {w : World} {g k : Nat} {r : RG} {K : Int} {V : BitVec 64} {p : Option Addr} {l c : Nat} {vs : Array Value} (hk : k ≠ g) (h : RowAt w g 0 (rgA r) ∧ (ldR g).run Try.prog w = .ok (.agg (rgA r)) w ∧ w.cell? ⟨g, 15, none⟩ = some (.int .i64 K) ∧ w.cell? ⟨g, 16, none⟩ = some (.int .u64 (uv V)) ∧ w.cell? ⟨g, 17, none⟩ = some (.slice p l c)) :
    RowAt (w.setRow k vs) g 0 (rgA r) ∧ (ldR g).run Try.prog (w.setRow k vs) = .ok (.agg (rgA r)) (w.setRow k vs) ∧ (w.setRow k vs).cell? ⟨g, 15, none⟩ = some (.int .i64 K) ∧ (w.setRow k vs).cell? ⟨g, 16, none⟩ = some (.int .u64 (uv V)) ∧ (w.setRow k vs).cell? ⟨g, 17, none⟩ = some (.slice p l c) :=
  ⟨row_row hk h.1, load_regs (row_row hk h.1), cell_row hk h.2.2.1, cell_row hk h.2.2.2.1, cell_row hk h.2.2.2.2⟩
theorem ints_two {w : World} {p : Option Addr} {ns : List Int} {o1 o2 : Obj} (h : IntsL w p ns) : IntsL ((w.alloc o1).alloc o2) p ns :=
  ints_later (ints_later h ((Below.refl _ _).alloc (Nat.le_refl _) _)) ((Below.refl _ _).alloc (Nat.le_refl _) _)

end Go.Proofs.Ytfialajiaphciaa.law13
