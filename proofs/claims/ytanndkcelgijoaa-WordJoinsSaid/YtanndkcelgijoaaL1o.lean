/- What the statements on words are handed: a row of structs of a word, fields, a place and a length. -/
import Derived.Test.YtanndkcelgijoaaRows
import Derived.Test.YtanndkcelgijoaaOpen
namespace Go.Proofs.Ytanndkcelgijoaa
open Go.ChangeShapes Go.WideShapes Go.RowKit Go.Deep

theorem cells26 : Try.prog.cellsOf 26 = 4 := by kernel_rfl
theorem cells39 : Try.prog.cellsOf 39 = 3 := by kernel_rfl

theorem cells23 : Try.prog.cellsOf 23 = 1 := by kernel_rfl
theorem cells3 : Try.prog.cellsOf 3 = 1 := by kernel_rfl
theorem cells24 : Try.prog.cellsOf 24 = 1 := by kernel_rfl

def AskAt (w : World) (b o : Nat) (V : BitVec 64) (p : Option Addr) (l c : Nat) (A N : Int) : Prop :=
  w.cell? ⟨b, o, none⟩ = some (.int .u64 (uv V)) ∧ w.cell? ⟨b, o + 1, none⟩ = some (.slice p l c) ∧ w.cell? ⟨b, o + 2, none⟩ = some (.int .i64 A) ∧ w.cell? ⟨b, o + 3, none⟩ = some (.int .i64 N)

theorem ask_open {H : Type} {enc : TypeId × Value → H} {w : World} {base : Nat} {spare : Nat → Bool} {held : Bool} {n b o : Nat} (h : ElemAt enc Try.prog w base spare held n 26 b o) :
    ∃ (V : BitVec 64) (p : Option Addr) (l c : Nat) (A N : Int), AskAt w b o V p l c A N ∧ (Lit.int .i64 A).wf = true ∧ (Lit.int .i64 N).wf = true ∧
      ∃ (m : Nat) (y : DataW H × List MemPlace), DataW.trod enc Try.prog w base spare held m 24 [.slice p l c] = some y := by
  obtain ⟨cs, y, hl, hat, htr⟩ := h
  rw [cells26] at hl hat
  match cs, hl with
  | [c0, c1, c2, c3], _ =>
    obtain ⟨ys, m, _, _, _, hyl, hg⟩ := DataW.trod_struct Try.underlying26 htr
    match ys, hyl with
    | [y0, y1, y2, y3], _ =>
      have g0 := hg 0 _ rfl
      have g1 := hg 1 _ rfl
      have g2 := hg 2 _ rfl
      have g3 := hg 3 _ rfl
      simp [cells23, cells3, cells24] at g0 g1 g2 g3
      obtain ⟨V0, e0, _, wV⟩ := DataW.trod_int Try.underlying23 g0
      obtain ⟨p, l, c, e1⟩ := Go.Joins.slice_form Try.underlying24 g1
      obtain ⟨A, e2, _, wA⟩ := DataW.trod_int Try.underlying3 g2
      obtain ⟨N, e3, _, wN⟩ := DataW.trod_int Try.underlying3 g3
      simp at e0 e1 e2 e3
      obtain ⟨V, rfl⟩ := wf_u64 wV
      subst e0 e1 e2 e3
      exact ⟨V, p, l, c, A, N, ⟨by simpa using hat 0 (by omega), by simpa using hat 1 (by omega), by simpa using hat 2 (by omega), by simpa using hat 3 (by omega)⟩, wA, wN, m, _, g1⟩

def FieldAt (w : World) (b o : Nat) (a n : Int) (x : BitVec 64) : Prop :=
  w.cell? ⟨b, o, none⟩ = some (.int .i64 a) ∧ w.cell? ⟨b, o + 1, none⟩ = some (.int .i64 n) ∧ w.cell? ⟨b, o + 2, none⟩ = some (.int .u64 (uv x))

theorem field_open {H : Type} {enc : TypeId × Value → H} {w : World} {base : Nat} {spare : Nat → Bool} {held : Bool} {n b o : Nat} (h : ElemAt enc Try.prog w base spare held n 39 b o) :
    ∃ (a n : Int) (x : BitVec 64), FieldAt w b o a n x ∧ (Lit.int .i64 a).wf = true ∧ (Lit.int .i64 n).wf = true := by
  obtain ⟨cs, y, hl, hat, htr⟩ := h
  rw [cells39] at hl hat
  match cs, hl with
  | [c0, c1, c2], _ =>
    obtain ⟨ys, m, _, _, _, hyl, hg⟩ := DataW.trod_struct Try.underlying39 htr
    match ys, hyl with
    | [y0, y1, y2], _ =>
      have g0 := hg 0 _ rfl
      have g1 := hg 1 _ rfl
      have g2 := hg 2 _ rfl
      simp [cells23, cells3] at g0 g1 g2
      obtain ⟨a, e0, _, wa⟩ := DataW.trod_int Try.underlying3 g0
      obtain ⟨n, e1, _, wn⟩ := DataW.trod_int Try.underlying3 g1
      obtain ⟨x0, e2, _, wx⟩ := DataW.trod_int Try.underlying23 g2
      simp at e0 e1 e2
      obtain ⟨x, rfl⟩ := wf_u64 wx
      subst e0 e1 e2
      exact ⟨a, n, x, ⟨by simpa using hat 0 (by omega), by simpa using hat 1 (by omega), by simpa using hat 2 (by omega)⟩, wa, wn⟩

/-- fields that a slice value holds -/
def FieldsAt (w : World) (p : Option Addr) (l : Nat) : Prop :=
  ∃ fb fo, (0 < l → p = some ⟨fb, fo, none⟩) ∧ ∀ j, j < l → ∃ a n x, FieldAt w fb (fo + j * 3) a n x

theorem fields_open {H : Type} {enc : TypeId × Value → H} {w : World} {base : Nat} {spare : Nat → Bool} {held : Bool} {m : Nat} {p : Option Addr} {l c : Nat} {y : DataW H × List MemPlace}
    (h : DataW.trod enc Try.prog w base spare held m 24 [.slice p l c] = some y) : FieldsAt w p l ∧ l ≤ maxLen := by
  obtain ⟨fb, fo, n, hp, hlc, hcm, hel⟩ := open_elems Try.underlying24 (by rw [cells39]; omega) h
  rw [cells39] at hel
  refine ⟨⟨fb, fo, hp, fun j hj => ?_⟩, Nat.le_trans hlc hcm⟩
  obtain ⟨a, n, x, hx, _, _⟩ := field_open (hel j hj)
  exact ⟨a, n, x, hx⟩
end Go.Proofs.Ytanndkcelgijoaa
