/- Whole blocks of memory, written as one. No conditions. -/
import Derived.Test.YtfialajiaphciaaBlk
namespace Go.Proofs.Ytfialajiaphciaa
open Go.RowKit
theorem Blk.row {w : World} {g : Nat} {cs : Array Value} (h : Blk w g cs) (vs : Array Value) : Blk (w.setRow g vs) g vs := by
  obtain ⟨t, h⟩ := h
  exact ⟨t, setRow_heap w g cs vs t _ h⟩
theorem below_setRow {B g : Nat} {a w : World} (h : Below B a w) (hg : B ≤ g) (vs : Array Value) : Below B a (w.setRow g vs) :=
  ⟨h.os, h.tape, h.output, by simpa [World.setRow] using h.size, fun k hk => (setRow_other w g k vs (by omega)).trans (h.block k hk)⟩
theorem Blk.row_ne {w : World} {g k : Nat} {cs : Array Value} (h : Blk w g cs) (hk : k ≠ g) (vs : Array Value) : Blk (w.setRow k vs) g cs := by
  obtain ⟨t, h⟩ := h
  exact ⟨t, (setRow_other w k g vs (by omega)).trans h⟩
end Go.Proofs.Ytfialajiaphciaa
