/- Cells that stay behind a call that only makes memory. No conditions. -/
import Derived.Test.YtfialajiaphciaaU64
namespace Go.Proofs.Ytfialajiaphciaa
open Go.RowKit
theorem held2 {W w2 : World} {a b : Addr} {x y : Value} (hb : Below W.heap.size W w2) (h : W.cell? a = some x ∧ W.cell? b = some y) :
    w2.cell? a = some x ∧ w2.cell? b = some y :=
  ⟨cell_later hb h.1, cell_later hb h.2⟩
theorem held3 {W w2 : World} {a b c : Addr} {x y z : Value} (hb : Below W.heap.size W w2) (h : W.cell? a = some x ∧ W.cell? b = some y ∧ W.cell? c = some z) :
    w2.cell? a = some x ∧ w2.cell? b = some y ∧ w2.cell? c = some z :=
  ⟨cell_later hb h.1, cell_later hb h.2.1, cell_later hb h.2.2⟩
theorem held4 {W w2 : World} {a b c d : Addr} {x y z u : Value} (hb : Below W.heap.size W w2) (h : W.cell? a = some x ∧ W.cell? b = some y ∧ W.cell? c = some z ∧ W.cell? d = some u) :
    w2.cell? a = some x ∧ w2.cell? b = some y ∧ w2.cell? c = some z ∧ w2.cell? d = some u :=
  ⟨cell_later hb h.1, cell_later hb h.2.1, cell_later hb h.2.2.1, cell_later hb h.2.2.2⟩
theorem held5 {W w2 : World} {a b c d f : Addr} {x y z u v : Value} (hb : Below W.heap.size W w2) (h : W.cell? a = some x ∧ W.cell? b = some y ∧ W.cell? c = some z ∧ W.cell? d = some u ∧ W.cell? f = some v) :
    w2.cell? a = some x ∧ w2.cell? b = some y ∧ w2.cell? c = some z ∧ w2.cell? d = some u ∧ w2.cell? f = some v :=
  ⟨cell_later hb h.1, cell_later hb h.2.1, cell_later hb h.2.2.1, cell_later hb h.2.2.2.1, cell_later hb h.2.2.2.2⟩
end Go.Proofs.Ytfialajiaphciaa
