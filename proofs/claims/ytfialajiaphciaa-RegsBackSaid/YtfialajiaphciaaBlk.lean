/- Whole blocks of memory, told cell by cell. No conditions. -/
import Derived.Test.YtfialajiaphciaaU64
namespace Go.Proofs.Ytfialajiaphciaa
open Go.RowKit

/-- a block of memory holds these cells -/
def Blk (w : World) (g : Nat) (cs : Array Value) : Prop := ∃ t, w.heap[g]? = some (.cells cs t (0, 0))
theorem Blk.cell {w : World} {g : Nat} {cs : Array Value} (h : Blk w g cs) (j : Nat) : w.cell? ⟨g, j, none⟩ = cs[j]? := by
  obtain ⟨t, h⟩ := h
  simp [World.cell?, h]
theorem Blk.frozen {w : World} {g : Nat} {cs : Array Value} (h : Blk w g cs) (j : Nat) : w.frozen? ⟨g, j, none⟩ = false := by
  obtain ⟨t, h⟩ := h
  simp [World.frozen?, h]
theorem Blk.lt {w : World} {g : Nat} {cs : Array Value} (h : Blk w g cs) : g < w.heap.size := by
  obtain ⟨t, h⟩ := h
  rcases Nat.lt_or_ge g w.heap.size with h' | h'
  · exact h'
  · rw [Array.getElem?_eq_none h'] at h; cases h
theorem Blk.later {w w1 : World} {B g : Nat} {cs : Array Value} (h : Blk w g cs) (hb : Below B w w1) (hg : g < B) : Blk w1 g cs := by
  obtain ⟨t, h⟩ := h
  exact ⟨t, (hb.block g hg).trans h⟩
theorem Blk.next {w w1 : World} {g : Nat} {cs : Array Value} (h : Blk w g cs) (hb : Below w.heap.size w w1) : Blk w1 g cs := h.later hb h.lt
theorem Blk.set {w : World} {g : Nat} {cs : Array Value} (h : Blk w g cs) (j : Nat) (v : Value) : Blk (w.setCell ⟨g, j, none⟩ v) g (cs.setIfInBounds j v) := by
  obtain ⟨t, h⟩ := h
  exact ⟨t, by simp [World.setCell, Array.getElem?_modify, h]⟩
theorem Blk.set_ne {w : World} {g k : Nat} {cs : Array Value} (h : Blk w g cs) (hk : k ≠ g) (j : Nat) (v : Value) : Blk (w.setCell ⟨k, j, none⟩ v) g cs := by
  obtain ⟨t, h⟩ := h
  exact ⟨t, by simp [World.setCell, Array.getElem?_modify, h, hk]⟩
theorem Blk.new (w : World) (cs : Array Value) (t : TypeId) : Blk (w.alloc (.cells cs t)) w.heap.size cs := ⟨t, by unfold World.alloc; simp only [Array.getElem?_push_size]⟩
theorem Blk.new_at (w : World) (cs : Array Value) (t : TypeId) (k : Nat) (hk : w.heap.size = k) : Blk (w.alloc (.cells cs t)) k cs := by subst hk; exact Blk.new w cs t
theorem Blk.alloc {w : World} {g : Nat} {cs : Array Value} (h : Blk w g cs) (o : Obj) : Blk (w.alloc o) g cs :=
  h.next ((Below.refl _ _).alloc (Nat.le_refl _) o)
theorem Blk.drew {w : World} {g : Nat} {cs : Array Value} (h : Blk w g cs) : Blk w.drew g cs := h
theorem Blk.drewN {w : World} {g : Nat} {cs : Array Value} (h : Blk w g cs) (n : Nat) : Blk (w.drewN n) g cs := h.next (below_drewN (Below.refl _ _) n)
end Go.Proofs.Ytfialajiaphciaa
