/- A slice of structs that came in, opened to its cells, over any program. No conditions. -/
import Derived.Test.YtfialajiaphciaaU64
import Derived.ProofKit
import Derived.Deep.Slices
import Derived.Deep.Fields
import Derived.Lib.SmallJoins
namespace Go.Proofs.Ytfialajiaphciaa
open Go.ChangeShapes Go.WideShapes Go.RowKit Go.Deep

section
variable {H : Type} {enc : TypeId × Value → H} {P : Program} {w : World} {base : Nat} {spare : Nat → Bool} {held : Bool}

/-- what is read at element number i: its cells, and their reading -/
def ElemAt (enc : TypeId × Value → H) (P : Program) (w : World) (base : Nat) (spare : Nat → Bool) (held : Bool) (n : Nat) (e : TypeId) (b o : Nat) : Prop :=
  ∃ (cs : List Value) (y : DataW H × List MemPlace), cs.length = P.cellsOf e ∧ (∀ j, j < P.cellsOf e → w.cell? ⟨b, o + j, none⟩ = cs[j]?) ∧ DataW.trod enc P w base spare held n e cs = some y

theorem open_elems {t e : TypeId} {fuel : Nat} {a0 : Option Addr} {l0 c0 : Nat} {x : DataW H × List MemPlace} (ht : P.underlying t = some (.slice e)) (hC : 0 < P.cellsOf e)
    (h : DataW.trod enc P w base spare held fuel t [.slice a0 l0 c0] = some x) :
    ∃ (b off n : Nat), (0 < l0 → a0 = some ⟨b, off, none⟩) ∧ l0 ≤ c0 ∧ c0 ≤ maxLen ∧ ∀ i, i < l0 → ElemAt enc P w base spare held n e b (off + i * P.cellsOf e) := by
  rcases open_slice ht h with ⟨hcs, _⟩ | ⟨a, len, cap, m, n, D, Pl, hcs, _, hl, hm, hmm, _, hi⟩
  · simp at hcs
    obtain ⟨rfl, rfl, rfl⟩ := hcs
    exact ⟨0, 0, 0, fun h => by omega, Nat.le_refl _, Nat.zero_le _, fun i hi => by omega⟩
  · simp at hcs
    obtain ⟨rfl, rfl, rfl⟩ := hcs
    have hlm : l0 ≤ m := by rw [hmm]; split <;> omega
    by_cases h0 : 0 < l0
    · obtain ⟨b, off, spot⟩ := a
      have hs : spot = none := by
        obtain ⟨cs', hc, _⟩ := hi 0 (by omega)
        obtain ⟨_, hcl, hat⟩ := World.cells?_some hc
        have h1 := hat 0 hC
        rw [List.getElem?_eq_getElem (by omega)] at h1
        simpa [Addr.add] using World.cell?_spot h1
      subst hs
      refine ⟨b, off, n, fun _ => rfl, hl, hm, fun i hil => ?_⟩
      obtain ⟨cs', hc, htr⟩ := hi i (by omega)
      obtain ⟨_, hcl, hat⟩ := World.cells?_some hc
      refine ⟨cs', _, hcl, fun j hj => ?_, htr⟩
      have h1 := hat j hj
      rw [Go.Deep.add_add, Go.WideShapes.add_plain] at h1
      rw [← h1, Nat.add_assoc]
    · exact ⟨0, 0, 0, fun h => absurd h h0, hl, hm, fun i hi => by omega⟩

theorem wf_u64 {x : Int} (h : (Lit.int .u64 x).wf = true) : ∃ v : BitVec 64, x = uv v := by
  refine ⟨BitVec.ofInt 64 x, ?_⟩
  have hx : 0 ≤ x ∧ x ≤ 18446744073709551615 := by simpa [Lit.wf, IntKind.min, IntKind.max, IntKind.signed, IntKind.bits] using h
  rw [← uv_ofInt, IntKind.wrap_u64]
  omega
theorem wf_i64 {x : Int} (h : (Lit.int .i64 x).wf = true) : -9223372036854775808 ≤ x ∧ x ≤ 9223372036854775807 := by
  simpa [Lit.wf, IntKind.min, IntKind.max, IntKind.signed, IntKind.bits] using h
end
end Go.Proofs.Ytfialajiaphciaa
