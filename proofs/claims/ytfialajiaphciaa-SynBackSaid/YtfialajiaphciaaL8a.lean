/- What the statements on faults are handed. -/
import Derived.Test.YtfialajiaphciaaRsynof
import Derived.Test.YtfialajiaphciaaOpen
import Derived.Test.YtfialajiaphciaaWithin
import Derived.Laws.StructEq
namespace Go.Proofs.Ytfialajiaphciaa.law8
open Go.ChangeShapes Go.WideShapes Go.RowKit Go.Deep
attribute [local go_sem] uv_and uv_or uv_xor uv_andNot uv_shr uv_shl uv_add uv_sub uv_neg uv_beq uv_beq0 uv_beq1 uv_bne uv_bne0 u64_signed uv_not sv_i64 sv_shr uv_sv ones_shr sv_w64 uv_and1

theorem cellsAsk : Try.prog.cellsOf 45 = 6 := by kernel_rfl
theorem cellsFault : Try.prog.cellsOf 43 = 5 := by kernel_rfl
theorem cellsU : Try.prog.cellsOf 23 = 1 := by kernel_rfl
theorem cellsI : Try.prog.cellsOf 3 = 1 := by kernel_rfl
theorem cellsB : Try.prog.cellsOf 4 = 1 := by kernel_rfl

def AskAt (w : World) (b o : Nat) (k s l : Int) (wk : Bool) (p : Int) (x : BitVec 64) : Prop :=
  w.cell? ⟨b, o, none⟩ = some (.int .i64 k) ∧ w.cell? ⟨b, o + 1, none⟩ = some (.int .i64 s) ∧ w.cell? ⟨b, o + 2, none⟩ = some (.int .i64 l) ∧ w.cell? ⟨b, o + 3, none⟩ = some (.bool wk) ∧ w.cell? ⟨b, o + 4, none⟩ = some (.int .i64 p) ∧ w.cell? ⟨b, o + 5, none⟩ = some (.int .u64 (uv x))
theorem ask_later {W w1 : World} {b o : Nat} {k s l : Int} {wk : Bool} {p : Int} {x : BitVec 64} (h : AskAt W b o k s l wk p x) (hb : Below W.heap.size W w1) : AskAt w1 b o k s l wk p x := by
  obtain ⟨e0, e1, e2, e3, e4, e5⟩ := h
  exact ⟨cell_later hb e0, cell_later hb e1, cell_later hb e2, cell_later hb e3, cell_later hb e4, cell_later hb e5⟩

theorem ask_open {H : Type} {enc : TypeId × Value → H} {w : World} {base : Nat} {spare : Nat → Bool} {held : Bool} {n b o : Nat} (h : ElemAt enc Try.prog w base spare held n 45 b o) :
    ∃ (k s l : Int) (wk : Bool) (p : Int) (x : BitVec 64), AskAt w b o k s l wk p x := by
  obtain ⟨cs, y, hl, hat, htr⟩ := h
  rw [cellsAsk] at hl hat
  match cs, hl with
  | [c0, c1, c2, c3, c4, c5], _ =>
    obtain ⟨ys, r, _, _, _, hyl, hg⟩ := DataW.trod_struct Try.underlying45 htr
    match ys, hyl with
    | [y0, y1], _ =>
      have g0 := hg 0 _ rfl
      have g1 := hg 1 _ rfl
      simp [cellsU, cellsFault] at g0 g1
      obtain ⟨xs, r2, _, _, _, hxl, hx⟩ := DataW.trod_struct Try.underlying43 g0
      match xs, hxl with
      | [x0, x1, x2, x3, x4], _ =>
        have i0 := hx 0 _ rfl
        have i1 := hx 1 _ rfl
        have i2 := hx 2 _ rfl
        have i3 := hx 3 _ rfl
        have i4 := hx 4 _ rfl
        simp [cellsI, cellsB] at i0 i1 i2 i3 i4
        obtain ⟨k, e0, _, _⟩ := DataW.trod_int Try.underlying3 i0
        obtain ⟨s, e1, _, _⟩ := DataW.trod_int Try.underlying3 i1
        obtain ⟨l, e2, _, _⟩ := DataW.trod_int Try.underlying3 i2
        obtain ⟨wk, e3, _⟩ := DataW.trod_bool Try.underlying4 i3
        obtain ⟨p, e4, _, _⟩ := DataW.trod_int Try.underlying3 i4
        obtain ⟨x0', e5, _, wx⟩ := DataW.trod_int Try.underlying23 g1
        simp at e0 e1 e2 e3 e4 e5
        obtain ⟨x, rfl⟩ := wf_u64 wx
        subst e0 e1 e2 e3 e4 e5
        exact ⟨k, s, l, wk, p, x, by simpa using hat 0 (by omega), by simpa using hat 1 (by omega), by simpa using hat 2 (by omega), by simpa using hat 3 (by omega), by simpa using hat 4 (by omega), by simpa using hat 5 (by omega)⟩

theorem stoodFault : Try.prog.stoodInHeld 43 = false := by kernel_rfl
theorem guardFault : Try.prog.eqGuardType Try.prog.depth 43 = false := by kernel_rfl
theorem neq_same (a b c : Int) (d : Bool) (e : Int) (w : World) : (binOp .neq 43 (.agg #[.int .i64 a, .int .i64 b, .int .i64 c, .bool d, .int .i64 e]) (.agg #[.int .i64 a, .int .i64 b, .int .i64 c, .bool d, .int .i64 e])).run Try.prog w = .ok (.bool false) w := by
  have h := stoodFault
  have k := @Try.underlying43
  have k3 := @Try.underlying3
  have k4 := @Try.underlying4
  go_simp

theorem num_any (x : Int) (w : World) : Calls Try.prog 21 #[.int .i64 x] w fun e w' => e = .returned (.int .i64 x) ∧ w = w' := by
  go_enter Try.func21, Try.ntmps21
  go_wp2
  go_ret
  exact ⟨rfl, rfl⟩
theorem word_c (w : World) :
    Calls Try.prog 16 #[.agg #[.int .i64 4, .int .i64 1, .int .i64 0, .bool false, .int .i64 0]] w fun e w' => e = .returned (.tuple #[.int .u64 12, .int .i64 0]) ∧ Below w.heap.size w w' :=
  (sword 4 1 0 false 0 true w (by decide)).mono fun _ _ ⟨he, hb⟩ => ⟨he, hb⟩
set_option maxHeartbeats 400000 in
theorem wakes_1 (w : World) : Calls Try.prog 22 #[] w fun e w' => e = .returned (.bool true) ∧ Below w.heap.size w w' := by
  go_enter Try.func22, Try.ntmps22
  go_wp2_with (first | (go_at_call 16; refine (word_c _).mono ?_; rintro e w1 ⟨rfl, hb1⟩) | (go_at_call 21; refine (num_any _ _).mono ?_; rintro e w2 ⟨rfl, rfl⟩))
  go_ret
  exact ⟨rfl, hb1⟩
end Go.Proofs.Ytfialajiaphciaa.law8
