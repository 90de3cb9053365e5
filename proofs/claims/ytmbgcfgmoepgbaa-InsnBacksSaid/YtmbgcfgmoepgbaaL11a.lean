/- What the statements on instructions are handed, and their small functions. -/
import Derived.Test.YtmbgcfgmoepgbaaRof
import Derived.Test.YtmbgcfgmoepgbaaOpen
import Derived.Laws.StructEq
namespace Go.Proofs.Ytmbgcfgmoepgbaa
open Go.ChangeShapes Go.WideShapes Go.RowKit Go.Deep
attribute [local go_sem] uv_and uv_or uv_xor uv_andNot uv_shr uv_shl uv_add uv_sub uv_neg uv_beq uv_beq0 uv_beq1 uv_bne0 u64_signed uv_not sv_i64 sv_shr uv_sv ones_shr uv_and4095 u3_and u3_or u3_and7 u3_and4095 u3_shr27 u3_shr24 u3_shr21 u3_shr18 u3_shl27 u3_shl24 u3_shl21 u3_shl18 u3_uv u3_i64 u3_w64 u3_u64 sv_w64 u3_beq u3_bne

theorem cells29 : Try.prog.cellsOf 29 = 6 := by kernel_rfl
theorem cells26 : Try.prog.cellsOf 26 = 5 := by kernel_rfl
theorem cells27 : Try.prog.cellsOf 27 = 1 := by kernel_rfl
theorem cells3 : Try.prog.cellsOf 3 = 1 := by kernel_rfl

def AskAt (w : World) (b o : Nat) (op d n m imm : Int) (x : BitVec 32) : Prop :=
  w.cell? ⟨b, o, none⟩ = some (.int .i64 op) ∧ w.cell? ⟨b, o + 1, none⟩ = some (.int .i64 d) ∧ w.cell? ⟨b, o + 2, none⟩ = some (.int .i64 n) ∧ w.cell? ⟨b, o + 3, none⟩ = some (.int .i64 m) ∧ w.cell? ⟨b, o + 4, none⟩ = some (.int .i64 imm) ∧
  w.cell? ⟨b, o + 5, none⟩ = some (.int .u32 (u3 x))
theorem ask_later {W w1 : World} {b o : Nat} {op d n m imm : Int} {x : BitVec 32} (h : AskAt W b o op d n m imm x) (hb : Below W.heap.size W w1) : AskAt w1 b o op d n m imm x := by
  obtain ⟨e0, e1, e2, e3, e4, e5⟩ := h
  exact ⟨cell_later hb e0, cell_later hb e1, cell_later hb e2, cell_later hb e3, cell_later hb e4, cell_later hb e5⟩
theorem ask_old {w wr : World} {b o : Nat} {op d n m imm : Int} {x : BitVec 32} (h : AskAt w b o op d n m imm x) (hb : Below w.heap.size w wr) : AskAt wr b o op d n m imm x := ask_later h hb
theorem ask_new {W w1 : World} {b o : Nat} {op d n m imm : Int} {x : BitVec 32} {ob : Obj} (h : AskAt W b o op d n m imm x) (hb : Below (W.alloc ob).heap.size (W.alloc ob) w1) : AskAt w1 b o op d n m imm x :=
  ask_later (ask_later h ((Below.refl _ _).alloc (Nat.le_refl _) _)) hb
/-- an instruction in a block of its own -/
def Five (w : World) (k : Nat) (a b c d e : Int) : Prop :=
  w.cell? ⟨k, 0, none⟩ = some (.int .i64 a) ∧ w.cell? ⟨k, 1, none⟩ = some (.int .i64 b) ∧ w.cell? ⟨k, 2, none⟩ = some (.int .i64 c) ∧ w.cell? ⟨k, 3, none⟩ = some (.int .i64 d) ∧ w.cell? ⟨k, 4, none⟩ = some (.int .i64 e)
theorem five_new {w w1 : World} {a b c d e : Int} {t : TypeId} (hb : Below (w.alloc (.cells #[.int .i64 a, .int .i64 b, .int .i64 c, .int .i64 d, .int .i64 e] t)).heap.size (w.alloc (.cells #[.int .i64 a, .int .i64 b, .int .i64 c, .int .i64 d, .int .i64 e] t)) w1) :
    Five w1 w.heap.size a b c d e := new5 hb
theorem five_later {W w1 : World} {k : Nat} {a b c d e : Int} (h : Five W k a b c d e) (hb : Below W.heap.size W w1) : Five w1 k a b c d e := by
  obtain ⟨e0, e1, e2, e3, e4⟩ := h
  exact ⟨cell_later hb e0, cell_later hb e1, cell_later hb e2, cell_later hb e3, cell_later hb e4⟩
theorem five_over {W w1 : World} {k : Nat} {a b c d e : Int} {ob : Obj} (h : Five W k a b c d e) (hb : Below (W.alloc ob).heap.size (W.alloc ob) w1) : Five w1 k a b c d e :=
  five_later (five_later h ((Below.refl _ _).alloc (Nat.le_refl _) _)) hb

theorem wf_u32 {x : Int} (h : (Lit.int .u32 x).wf = true) : ∃ v : BitVec 32, x = u3 v := by
  refine ⟨BitVec.ofInt 32 x, ?_⟩
  have hx : 0 ≤ x ∧ x ≤ 4294967295 := by simpa [Lit.wf, IntKind.min, IntKind.max, IntKind.signed, IntKind.bits] using h
  rw [← u3_ofInt, IntKind.wrap_u32']
  omega
theorem ask_open {H : Type} {enc : TypeId × Value → H} {w : World} {base : Nat} {spare : Nat → Bool} {held : Bool} {k b o : Nat} (h : ElemAt enc Try.prog w base spare held k 29 b o) :
    ∃ (op d n m imm : Int) (x : BitVec 32), AskAt w b o op d n m imm x := by
  obtain ⟨cs, y, hl, hat, htr⟩ := h
  rw [cells29] at hl hat
  match cs, hl with
  | [c0, c1, c2, c3, c4, c5], _ =>
    obtain ⟨ys, r, _, _, _, hyl, hg⟩ := DataW.trod_struct Try.underlying29 htr
    match ys, hyl with
    | [y0, y1], _ =>
      have g0 := hg 0 _ rfl
      have g1 := hg 1 _ rfl
      simp [cells27, cells26] at g0 g1
      obtain ⟨xs, r2, _, _, _, hxl, hx⟩ := DataW.trod_struct Try.underlying26 g0
      match xs, hxl with
      | [x0, x1, x2, x3, x4], _ =>
        have i0 := hx 0 _ rfl
        have i1 := hx 1 _ rfl
        have i2 := hx 2 _ rfl
        have i3 := hx 3 _ rfl
        have i4 := hx 4 _ rfl
        simp [cells3] at i0 i1 i2 i3 i4
        obtain ⟨op, e0, _, _⟩ := DataW.trod_int Try.underlying3 i0
        obtain ⟨d, e1, _, _⟩ := DataW.trod_int Try.underlying3 i1
        obtain ⟨n, e2, _, _⟩ := DataW.trod_int Try.underlying3 i2
        obtain ⟨m, e3, _, _⟩ := DataW.trod_int Try.underlying3 i3
        obtain ⟨imm, e4, _, _⟩ := DataW.trod_int Try.underlying3 i4
        obtain ⟨N0, e5, _, wN⟩ := DataW.trod_int Try.underlying27 g1
        simp at e0 e1 e2 e3 e4 e5
        obtain ⟨N, rfl⟩ := wf_u32 wN
        subst e0 e1 e2 e3 e4 e5
        exact ⟨op, d, n, m, imm, N, by simpa using hat 0 (by omega), by simpa using hat 1 (by omega), by simpa using hat 2 (by omega), by simpa using hat 3 (by omega), by simpa using hat 4 (by omega), by simpa using hat 5 (by omega)⟩

theorem stood26 : Try.prog.stoodInHeld 26 = false := by kernel_rfl
theorem guard26 : Try.prog.eqGuardType Try.prog.depth 26 = false := by kernel_rfl
theorem neq_same (a b c d e : Int) (w : World) : (binOp .neq 26 (.agg #[.int .i64 a, .int .i64 b, .int .i64 c, .int .i64 d, .int .i64 e]) (.agg #[.int .i64 a, .int .i64 b, .int .i64 c, .int .i64 d, .int .i64 e])).run Try.prog w = .ok (.bool false) w := by
  have h := stood26
  have k := @Try.underlying26
  have k3 := @Try.underlying3
  go_simp

theorem num_any (x : Int) (w : World) : Calls Try.prog 17 #[.int .i64 x] w fun e w' => e = .returned (.int .i64 x) ∧ w = w' := by
  go_enter Try.func17, Try.ntmps17
  go_wp2
  go_ret
  exact ⟨rfl, rfl⟩
theorem word_c (w : World) :
    Calls Try.prog 12 #[.agg #[.int .i64 1, .int .i64 0, .int .i64 0, .int .i64 0, .int .i64 1]] w fun e w' => e = .returned (.tuple #[.int .u32 134217729, .int .i64 0]) ∧ Below w.heap.size w w' :=
  (word_yes 1 0 0 0 1 w (by decide)).mono fun _ _ ⟨he, hb⟩ => ⟨he, hb⟩
set_option maxHeartbeats 400000 in
theorem wakes_1 (w : World) : Calls Try.prog 19 #[] w fun e w' => e = .returned (.bool true) ∧ Below w.heap.size w w' := by
  go_enter Try.func19, Try.ntmps19
  go_wp2_with (first | (go_at_call 12; refine (word_c _).mono ?_; rintro e w1 ⟨rfl, hb1⟩) | (go_at_call 17; refine (num_any _ _).mono ?_; rintro e w2 ⟨rfl, rfl⟩))
  go_ret
  exact ⟨rfl, hb1⟩
end Go.Proofs.Ytmbgcfgmoepgbaa
