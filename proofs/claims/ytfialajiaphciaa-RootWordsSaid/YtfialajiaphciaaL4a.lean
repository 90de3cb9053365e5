/- What the statements on roots are handed; RootWords and RootBack: the walks. -/
import Derived.Test.YtfialajiaphciaaRr
import Derived.Test.YtfialajiaphciaaOpen
import Derived.Laws.StructEq
namespace Go.Proofs.Ytfialajiaphciaa.law4
open Go.ChangeShapes Go.WideShapes Go.RowKit Go.Deep
attribute [local go_sem] uv_and uv_or uv_xor uv_andNot uv_shr uv_shl uv_add uv_sub uv_neg uv_beq uv_beq0 uv_beq1 uv_bne uv_bne0 u64_signed uv_not sv_i64 sv_shr uv_sv ones_shr sv_w64 uv_and1

theorem cellsAsk : Try.prog.cellsOf 30 = 4 := by kernel_rfl
theorem cellsRoot : Try.prog.cellsOf 28 = 3 := by kernel_rfl
theorem cellsU : Try.prog.cellsOf 23 = 1 := by kernel_rfl
theorem cellsI : Try.prog.cellsOf 3 = 1 := by kernel_rfl
theorem cellsB : Try.prog.cellsOf 4 = 1 := by kernel_rfl

def AskAt (w : World) (b o : Nat) (on : Bool) (f t : Int) (x : BitVec 64) : Prop :=
  w.cell? ⟨b, o, none⟩ = some (.bool on) ∧ w.cell? ⟨b, o + 1, none⟩ = some (.int .i64 f) ∧ w.cell? ⟨b, o + 2, none⟩ = some (.int .i64 t) ∧ w.cell? ⟨b, o + 3, none⟩ = some (.int .u64 (uv x))
theorem ask_later {W w1 : World} {b o : Nat} {on : Bool} {f t : Int} {x : BitVec 64} (h : AskAt W b o on f t x) (hb : Below W.heap.size W w1) : AskAt w1 b o on f t x := by
  obtain ⟨e0, e1, e2, e3⟩ := h
  exact ⟨cell_later hb e0, cell_later hb e1, cell_later hb e2, cell_later hb e3⟩
theorem ask_new {W w1 : World} {b o : Nat} {on : Bool} {f t : Int} {x : BitVec 64} {ob : Obj} (h : AskAt W b o on f t x) (hb : Below (W.alloc ob).heap.size (W.alloc ob) w1) : AskAt w1 b o on f t x :=
  ask_later (ask_later h ((Below.refl _ _).alloc (Nat.le_refl _) _)) hb
def Three (w : World) (k : Nat) (a : Bool) (b c : Int) : Prop :=
  w.cell? ⟨k, 0, none⟩ = some (.bool a) ∧ w.cell? ⟨k, 1, none⟩ = some (.int .i64 b) ∧ w.cell? ⟨k, 2, none⟩ = some (.int .i64 c)
theorem three_new {w w1 : World} {a : Bool} {b c : Int} {t : TypeId} (hb : Below (w.alloc (.cells #[.bool a, .int .i64 b, .int .i64 c] t)).heap.size (w.alloc (.cells #[.bool a, .int .i64 b, .int .i64 c] t)) w1) :
    Three w1 w.heap.size a b c := new3 hb
theorem three_later {W w1 : World} {k : Nat} {a : Bool} {b c : Int} (h : Three W k a b c) (hb : Below W.heap.size W w1) : Three w1 k a b c := by
  obtain ⟨e0, e1, e2⟩ := h
  exact ⟨cell_later hb e0, cell_later hb e1, cell_later hb e2⟩

theorem ask_open {H : Type} {enc : TypeId × Value → H} {w : World} {base : Nat} {spare : Nat → Bool} {held : Bool} {k b o : Nat} (h : ElemAt enc Try.prog w base spare held k 30 b o) :
    ∃ (on : Bool) (f t : Int) (x : BitVec 64), AskAt w b o on f t x := by
  obtain ⟨cs, y, hl, hat, htr⟩ := h
  rw [cellsAsk] at hl hat
  match cs, hl with
  | [c0, c1, c2, c3], _ =>
    obtain ⟨ys, r, _, _, _, hyl, hg⟩ := DataW.trod_struct Try.underlying30 htr
    match ys, hyl with
    | [y0, y1], _ =>
      have g0 := hg 0 _ rfl
      have g1 := hg 1 _ rfl
      simp [cellsU, cellsRoot] at g0 g1
      obtain ⟨xs, r2, _, _, _, hxl, hx⟩ := DataW.trod_struct Try.underlying28 g0
      match xs, hxl with
      | [x0, x1, x2], _ =>
        have i0 := hx 0 _ rfl
        have i1 := hx 1 _ rfl
        have i2 := hx 2 _ rfl
        simp [cellsI, cellsB] at i0 i1 i2
        obtain ⟨on, e0, _⟩ := DataW.trod_bool Try.underlying4 i0
        obtain ⟨f, e1, _, _⟩ := DataW.trod_int Try.underlying3 i1
        obtain ⟨t, e2, _, _⟩ := DataW.trod_int Try.underlying3 i2
        obtain ⟨x0', e3, _, wx⟩ := DataW.trod_int Try.underlying23 g1
        simp at e0 e1 e2 e3
        obtain ⟨x, rfl⟩ := wf_u64 wx
        subst e0 e1 e2 e3
        exact ⟨on, f, t, x, by simpa using hat 0 (by omega), by simpa using hat 1 (by omega), by simpa using hat 2 (by omega), by simpa using hat 3 (by omega)⟩

theorem stoodRoot : Try.prog.stoodInHeld 28 = false := by kernel_rfl
theorem guardRoot : Try.prog.eqGuardType Try.prog.depth 28 = false := by kernel_rfl
theorem neq_same (a : Bool) (b c : Int) (w : World) : (binOp .neq 28 (.agg #[.bool a, .int .i64 b, .int .i64 c]) (.agg #[.bool a, .int .i64 b, .int .i64 c])).run Try.prog w = .ok (.bool false) w := by
  have h := stoodRoot
  have k := @Try.underlying28
  have k3 := @Try.underlying3
  have k4 := @Try.underlying4
  go_simp

theorem num_any (x : Int) (w : World) : Calls Try.prog 14 #[.int .i64 x] w fun e w' => e = .returned (.int .i64 x) ∧ w = w' := by
  go_enter Try.func14, Try.ntmps14
  go_wp2
  go_ret
  exact ⟨rfl, rfl⟩
theorem word_c (w : World) :
    Calls Try.prog 9 #[.agg #[.bool true, .int .i64 1, .int .i64 0]] w fun e w' => e = .returned (.tuple #[.int .u64 4097, .int .i64 0]) ∧ Below w.heap.size w w' :=
  (rword_yes true 1 0 w (by decide)).mono fun _ _ ⟨he, hb⟩ => ⟨he, hb⟩
set_option maxHeartbeats 400000 in
theorem wakes_1 (w : World) : Calls Try.prog 15 #[] w fun e w' => e = .returned (.bool true) ∧ Below w.heap.size w w' := by
  go_enter Try.func15, Try.ntmps15
  go_wp2_with (first | (go_at_call 9; refine (word_c _).mono ?_; rintro e w1 ⟨rfl, hb1⟩) | (go_at_call 14; refine (num_any _ _).mono ?_; rintro e w2 ⟨rfl, rfl⟩))
  go_ret
  exact ⟨rfl, hb1⟩
theorem rroot_eq (on : Bool) (f t : Int) (b : Bool) (w : World) (h : okR f t = b) :
    Calls Try.prog 10 #[.agg #[.bool on, .int .i64 f, .int .i64 t]] w fun e w' => e = .returned (.bool b) ∧ Below w.heap.size w w' := by
  rw [← h]; exact rroot_any on f t w
end Go.Proofs.Ytfialajiaphciaa.law4
