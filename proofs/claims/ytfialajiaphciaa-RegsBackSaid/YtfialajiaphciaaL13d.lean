/- Plain laws on registers: what was set is got; a root that is written is the root. -/
import Derived.Test.YtfialajiaphciaaL13c
namespace Go.Proofs.Ytfialajiaphciaa.law13
open Go.RowKit

theorem set_get (r : RG) (k : Int) (v : BitVec 64) (h : btwB k 0 5 = true) : sysV (setV r k v) k = v := by
  rcases six h with rfl | rfl | rfl | rfl | rfl | rfl <;> rfl
theorem set_other (r : RG) (k j : Int) (v : BitVec 64) (h : btwB k 0 5 = true) (hj : btwB j 0 5 = true) (hne : j ≠ k) : sysV (setV r k v) j = sysV r j := by
  rcases six h with rfl | rfl | rfl | rfl | rfl | rfl <;> rcases six hj with rfl | rfl | rfl | rfl | rfl | rfl <;> first | rfl | exact absurd rfl hne
theorem set_keeps (r : RG) (k : Int) (v : BitVec 64) (h : btwB k 0 5 = true) :
    (setV r k v).x0 = r.x0 ∧ (setV r k v).x1 = r.x1 ∧ (setV r k v).x2 = r.x2 ∧ (setV r k v).x3 = r.x3 ∧ (setV r k v).x4 = r.x4 ∧ (setV r k v).x5 = r.x5 ∧ (setV r k v).x6 = r.x6 ∧ (setV r k v).x7 = r.x7 ∧ (setV r k v).pc = r.pc := by
  rcases six h with rfl | rfl | rfl | rfl | rfl | rfl <;> exact ⟨rfl, rfl, rfl, rfl, rfl, rfl, rfl, rfl, rfl⟩

def xsA (r : RG) : Array Value := #[.int .u64 (uv r.x0), .int .u64 (uv r.x1), .int .u64 (uv r.x2), .int .u64 (uv r.x3), .int .u64 (uv r.x4), .int .u64 (uv r.x5), .int .u64 (uv r.x6), .int .u64 (uv r.x7)]
/-- the general registers are read whole -/
def ldX (g : Nat) : Sem Value := Instr.loadAt 56 (.pointer (some ⟨g, 0, none⟩))
def ldW (x : Value) : Sem Value := Instr.loadAt 56 x
theorem ldW_fold (x : Value) : Instr.loadAt 56 x = ldW x := rfl
theorem ldW_at (g : Nat) : ldW (.pointer (some ⟨g, 0, none⟩)) = ldX g := rfl
theorem xs_regs (r : RG) (j : Nat) (v : Value) (h : (xsA r)[j]? = some v) : (rgA r)[0 + j]? = some v := by
  have hj : j < 8 := by
    rcases Nat.lt_or_ge j 8 with h' | h'
    · exact h'
    · rw [Array.getElem?_eq_none (by simpa [xsA] using h')] at h; cases h
  rw [Nat.zero_add, ← h]
  have : j = 0 ∨ j = 1 ∨ j = 2 ∨ j = 3 ∨ j = 4 ∨ j = 5 ∨ j = 6 ∨ j = 7 := by omega
  rcases this with rfl | rfl | rfl | rfl | rfl | rfl | rfl | rfl <;> rfl
theorem load_xs {w : World} {g : Nat} {r : RG} (h : RowAt w g 0 (rgA r)) : (ldX g).run Try.prog w = .ok (.agg (xsA r)) w := by
  have hx : RowAt w g 0 (xsA r) := h.part 0 _ (xs_regs r)
  unfold ldX
  simp only [Instr.loadAt, Instr.sureAddr, Sem.run_bind, Sem.run_pure, Result.andThen_ok, run_loadVar_at (P := Try.prog) w g 0 56 (xsA r) _ hx Try.underlying56 rfl (by kernel_rfl)]
theorem xs_set (r : RG) (k : Int) (v : BitVec 64) (h : btwB k 0 5 = true) : xsA (setV r k v) = xsA r := by
  obtain ⟨h0, h1, h2, h3, h4, h5, h6, h7, _⟩ := set_keeps r k v h
  unfold xsA
  rw [h0, h1, h2, h3, h4, h5, h6, h7]
theorem guardX : Try.prog.eqGuardType Try.prog.depth 56 = false := by kernel_rfl
theorem neq_xs (r : RG) (w : World) : (binOp .neq 56 (.agg (xsA r)) (.agg (xsA r))).run Try.prog w = .ok (.bool false) w := by
  have hx := eq_x 9998
  unfold xsA
  go_simp
theorem back_cells {w : World} {g : Nat} {r : RG} {K : Int} {V : BitVec 64} {p : Option Addr} {l c : Nat} (h : Blk w g (askA r K V p l c)) :
    (ldX g).run Try.prog w = .ok (.agg (xsA r)) w ∧ w.cell? ⟨g, 8, none⟩ = some (.int .u64 (uv r.pc)) ∧ w.cell? ⟨g, 9, none⟩ = some (.int .u64 (uv r.s0)) ∧ w.cell? ⟨g, 10, none⟩ = some (.int .u64 (uv r.s1)) ∧ w.cell? ⟨g, 11, none⟩ = some (.int .u64 (uv r.s2)) :=
  ⟨load_xs (box_regs h), h.cell 8, h.cell 9, h.cell 10, h.cell 11⟩
theorem reg_cells {w : World} {g : Nat} {r : RG} (h : Blk w g (rgA r)) :
    (ldX g).run Try.prog w = .ok (.agg (xsA r)) w ∧ w.cell? ⟨g, 8, none⟩ = some (.int .u64 (uv r.pc)) ∧ w.cell? ⟨g, 9, none⟩ = some (.int .u64 (uv r.s0)) ∧ w.cell? ⟨g, 10, none⟩ = some (.int .u64 (uv r.s1)) ∧ w.cell? ⟨g, 11, none⟩ = some (.int .u64 (uv r.s2)) ∧
    w.cell? ⟨g, 12, none⟩ = some (.int .u64 (uv r.s3)) ∧ w.cell? ⟨g, 13, none⟩ = some (.int .u64 (uv r.s4)) ∧ w.cell? ⟨g, 14, none⟩ = some (.int .u64 (uv r.s5)) :=
  ⟨load_xs h.rowAt, h.cell 8, h.cell 9, h.cell 10, h.cell 11, h.cell 12, h.cell 13, h.cell 14⟩
theorem root_off (on : Bool) (f t : Int) : rootB on f t &&& 18446744073709551614#64 = rootB false f t := by
  have hm : ∀ i, i < 64 → (18446744073709551614#64).getLsbD i = decide (i ≠ 0) := by
    intro i hi
    have e : (18446744073709551614#64) = ~~~1#64 := by decide
    rw [e, BitVec.getLsbD_not, BitVec.getLsbD_one]
    by_cases h0 : i = 0
    · subst h0; rfl
    · simp [hi, h0]
  apply BitVec.eq_of_getLsbD_eq
  intro i hi
  unfold rootB
  simp only [BitVec.zero_or, BitVec.shiftLeft_zero, BitVec.getLsbD_and, BitVec.getLsbD_or, BitVec.getLsbD_shiftLeft, hm i hi]
  by_cases h0 : i = 0
  · subst h0
    simp [onB]
  · have hon : (onB on).getLsbD i = false := by cases on <;> simp [onB, BitVec.getLsbD_one, h0]
    have hoff : (onB false).getLsbD i = false := by simp [onB]
    rw [hon, hoff]
    simp [h0]
theorem one_root (r : RG) (on : Bool) (f t : Int) (h : okR f t = true) : oneA { r with s0 := rootB on f t, s1 := onB on } = #[.bool on, .int .i64 f, .int .i64 t] := by
  have hk : oneOk { r with s0 := rootB on f t, s1 := onB on } = true := by
    unfold oneOk
    show okRof (rootB on f t &&& 18446744073709551614#64) = true
    rw [root_off]
    exact okRof_root false f t h
  obtain ⟨h1, h2, h3⟩ := root_back false f t h
  unfold oneA
  rw [hk]
  show #[Value.bool (onD (onB on)), .int .i64 (partI (rootB on f t &&& 18446744073709551614#64) 12 12), .int .i64 (partI (rootB on f t &&& 18446744073709551614#64) 48 4)] = _
  rw [root_off, h2, h3]
  cases on <;> rfl
theorem end_all {w : World} {g k : Nat} {r : RG} {on : Bool} {f t : Int} (h : Blk w g (rgA r)) (hk : Blk w k #[.bool on, .int .i64 f, .int .i64 t]) :
    RowAt w g 0 (rgA r) ∧ (ldR g).run Try.prog w = .ok (.agg (rgA r)) w ∧ w.cell? ⟨k, 0, none⟩ = some (.bool on) ∧ w.cell? ⟨k, 1, none⟩ = some (.int .i64 f) ∧ w.cell? ⟨k, 2, none⟩ = some (.int .i64 t) := ⟨h.rowAt, load_regs h.rowAt, hk.cell 0, hk.cell 1, hk.cell 2⟩
theorem end_drew {w : World} {g k : Nat} {r : RG} {on : Bool} {f t : Int} (h : RowAt w g 0 (rgA r) ∧ (ldR g).run Try.prog w = .ok (.agg (rgA r)) w ∧ w.cell? ⟨k, 0, none⟩ = some (.bool on) ∧ w.cell? ⟨k, 1, none⟩ = some (.int .i64 f) ∧ w.cell? ⟨k, 2, none⟩ = some (.int .i64 t)) :
    RowAt w.drew g 0 (rgA r) ∧ (ldR g).run Try.prog w.drew = .ok (.agg (rgA r)) w.drew ∧ w.drew.cell? ⟨k, 0, none⟩ = some (.bool on) ∧ w.drew.cell? ⟨k, 1, none⟩ = some (.int .i64 f) ∧ w.drew.cell? ⟨k, 2, none⟩ = some (.int .i64 t) := ⟨h.1, load_regs (show RowAt w.drew g 0 (rgA r) from h.1), h.2.2.1, h.2.2.2.1, h.2.2.2.2⟩
theorem end_on {w w1 : World} {g k : Nat} {r : RG} {on : Bool} {f t : Int} (hb : Below w.heap.size w w1) (h : RowAt w g 0 (rgA r) ∧ (ldR g).run Try.prog w = .ok (.agg (rgA r)) w ∧ w.cell? ⟨k, 0, none⟩ = some (.bool on) ∧ w.cell? ⟨k, 1, none⟩ = some (.int .i64 f) ∧ w.cell? ⟨k, 2, none⟩ = some (.int .i64 t)) :
    RowAt w1 g 0 (rgA r) ∧ (ldR g).run Try.prog w1 = .ok (.agg (rgA r)) w1 ∧ w1.cell? ⟨k, 0, none⟩ = some (.bool on) ∧ w1.cell? ⟨k, 1, none⟩ = some (.int .i64 f) ∧ w1.cell? ⟨k, 2, none⟩ = some (.int .i64 t) := ⟨h.1.next hb, load_regs (h.1.next hb), cell_later hb h.2.2.1, cell_later hb h.2.2.2.1, cell_later hb h.2.2.2.2⟩
theorem ok_within (K T : Int) : okR (withinI K 4096) (withinI T 16) = true := by
  have h1 := within_bd K 4096 (by omega)
  have h2 := within_bd T 16 (by omega)
  unfold okR
  rw [btw_yes h1.1 (by omega), btw_yes h2.1 (by omega)]
  rfl
end Go.Proofs.Ytfialajiaphciaa.law13
