/- What the statements on reckoning are handed, and their small functions. -/
import Derived.Test.YtkdoedfdpijfkaaSum
import Derived.Test.YtkdoedfdpijfkaaOpen
import Derived.Test.YtkdoedfdpijfkaaH
namespace Go.Proofs.Ytkdoedfdpijfkaa
open Go.ChangeShapes Go.WideShapes Go.RowKit Go.Deep
attribute [local go_sem] uv_and uv_or uv_xor uv_andNot uv_shr uv_shl uv_add uv_sub uv_neg uv_beq uv_beq0 uv_beq1 uv_bne0 u64_signed uv_not sv_i64 sv_shr uv_sv ones_shr

theorem cells28 : Try.prog.cellsOf 28 = 8 := by kernel_rfl
theorem cells24 : Try.prog.cellsOf 24 = 5 := by kernel_rfl
theorem cells25 : Try.prog.cellsOf 25 = 1 := by kernel_rfl
theorem cells3 : Try.prog.cellsOf 3 = 1 := by kernel_rfl
theorem cells26 : Try.prog.cellsOf 26 = 1 := by kernel_rfl

def AskAt (w : World) (b o : Nat) (op d n m imm : Int) (N M : BitVec 64) (p : Option Addr) (l c : Nat) : Prop :=
  w.cell? ⟨b, o, none⟩ = some (.int .i64 op) ∧ w.cell? ⟨b, o + 1, none⟩ = some (.int .i64 d) ∧ w.cell? ⟨b, o + 2, none⟩ = some (.int .i64 n) ∧ w.cell? ⟨b, o + 3, none⟩ = some (.int .i64 m) ∧ w.cell? ⟨b, o + 4, none⟩ = some (.int .i64 imm) ∧
  w.cell? ⟨b, o + 5, none⟩ = some (.int .u64 (uv N)) ∧ w.cell? ⟨b, o + 6, none⟩ = some (.int .u64 (uv M)) ∧ w.cell? ⟨b, o + 7, none⟩ = some (.slice p l c)

theorem ask_open {H : Type} {enc : TypeId × Value → H} {w : World} {base : Nat} {spare : Nat → Bool} {held : Bool} {k b o : Nat} (h : ElemAt enc Try.prog w base spare held k 28 b o) :
    ∃ (op d n m imm : Int) (N M : BitVec 64) (p : Option Addr) (l c : Nat), AskAt w b o op d n m imm N M p l c ∧ (∃ fs, fs.length = l ∧ WordsL w p fs) ∧ l ≤ maxLen := by
  obtain ⟨cs, y, hl, hat, htr⟩ := h
  rw [cells28] at hl hat
  match cs, hl with
  | [c0, c1, c2, c3, c4, c5, c6, c7], _ =>
    obtain ⟨ys, r, _, _, _, hyl, hg⟩ := DataW.trod_struct Try.underlying28 htr
    match ys, hyl with
    | [y0, y1, y2, y3], _ =>
      have g0 := hg 0 _ rfl
      have g1 := hg 1 _ rfl
      have g2 := hg 2 _ rfl
      have g3 := hg 3 _ rfl
      simp [cells25, cells24, cells26] at g0 g1 g2 g3
      obtain ⟨xs, r2, _, _, _, hxl, hx⟩ := DataW.trod_struct Try.underlying24 g0
      match xs, hxl with
      | [x0, x1, x2, x3, x4], _ =>
        have i0 := hx 0 _ rfl
        have i1 := hx 1 _ rfl
        have i2 := hx 2 _ rfl
        have i3 := hx 3 _ rfl
        have i4 := hx 4 _ rfl
        simp [cells3] at i0 i1 i2 i3 i4
        obtain ⟨op, e0, _, _⟩ := DataW.trod_int Try.underlying3 i0
        obtain ⟨d, e1, _, _⟩ := DataW.trod_int Try.underlying3 i1
        obtain ⟨n, e2, _, _⟩ := DataW.trod_int Try.underlying3 i2
        obtain ⟨m, e3, _, _⟩ := DataW.trod_int Try.underlying3 i3
        obtain ⟨imm, e4, _, _⟩ := DataW.trod_int Try.underlying3 i4
        obtain ⟨N0, e5, _, wN⟩ := DataW.trod_int Try.underlying25 g1
        obtain ⟨M0, e6, _, wM⟩ := DataW.trod_int Try.underlying25 g2
        obtain ⟨p, l, c, e7⟩ := Go.Joins.slice_form Try.underlying26 g3
        simp at e0 e1 e2 e3 e4 e5 e6 e7
        obtain ⟨N, rfl⟩ := wf_u64 wN
        obtain ⟨M, rfl⟩ := wf_u64 wM
        subst e0 e1 e2 e3 e4 e5 e6 e7
        obtain ⟨fb, fo, q, hp, hlc, hcm, hel⟩ := open_elems Try.underlying26 (by rw [cells25]; omega) g3
        rw [cells25] at hel
        have hx : ∀ j, j < l → ∃ x : BitVec 64, w.cell? ⟨fb, fo + j, none⟩ = some (.int .u64 (uv x)) := fun j hj => by
          obtain ⟨cs', y', hl', hat', htr'⟩ := hel j hj
          rw [cells25] at hl' hat'
          match cs', hl' with
          | [c'], _ =>
            obtain ⟨z, ez, _, wz⟩ := DataW.trod_int Try.underlying25 htr'
            simp at ez
            obtain ⟨x, rfl⟩ := wf_u64 wz
            subst ez
            exact ⟨x, by simpa using hat' 0 (by omega)⟩
        obtain ⟨fs, hfl, hfs⟩ := exists_words l hx
        exact ⟨op, d, n, m, imm, N, M, p, l, c, ⟨by simpa using hat 0 (by omega), by simpa using hat 1 (by omega), by simpa using hat 2 (by omega), by simpa using hat 3 (by omega), by simpa using hat 4 (by omega), by simpa using hat 5 (by omega), by simpa using hat 6 (by omega), by simpa using hat 7 (by omega)⟩,
          ⟨fs, hfl, fb, fo, by rw [hfl]; exact hp, hfs⟩, Nat.le_trans hlc hcm⟩

theorem num_any (x : Int) (w : World) : Calls Try.prog 14 #[.int .i64 x] w fun e w' => e = .returned (.int .i64 x) ∧ w = w' := by
  go_enter Try.func14, Try.ntmps14
  go_wp2
  go_ret
  exact ⟨rfl, rfl⟩
theorem may_plain (op I : Int) (h1 : 1 ≤ op) (h6 : op ≤ 6) (h2 : -2048 ≤ I) (h3 : I ≤ 2047) : mayDoB op 0 0 0 I = true := by
  unfold mayDoB okI
  have a1 : btwB op 1 16 = true := by simp [btwB]; omega
  have a2 : btwB I (-2048) 2047 = true := by simp [btwB]; omega
  have a3 : btwB 0 0 7 = true := by simp [btwB]
  rw [a1, a2, a3, if_neg (by omega), if_neg (by omega), if_neg (by omega)]
  simp; omega
theorem do_c (w : World) :
    Calls Try.prog 11 #[.agg #[.int .i64 1, .int .i64 0, .int .i64 0, .int .i64 0, .int .i64 (-1)], .int .u64 0, .int .u64 0] w fun e w' => e = .returned (.tuple #[.int .u64 18446744073709551615, .int .i64 0]) ∧ Below w.heap.size w w' :=
  (do_yes 1 0 0 0 (-1) 0#64 0#64 w (by decide)).mono fun _ _ ⟨he, hb⟩ => ⟨he, hb⟩
set_option maxHeartbeats 400000 in
theorem wakes_1 (w : World) : Calls Try.prog 16 #[] w fun e w' => e = .returned (.bool true) ∧ Below w.heap.size w w' := by
  go_enter Try.func16, Try.ntmps16
  go_wp2_with (first | (go_at_call 11; refine (do_c _).mono ?_; rintro e w1 ⟨rfl, hb1⟩) | (go_at_call 14; refine (num_any _ _).mono ?_; rintro e w2 ⟨rfl, rfl⟩))
  go_ret
  exact ⟨rfl, hb1⟩
end Go.Proofs.Ytkdoedfdpijfkaa
