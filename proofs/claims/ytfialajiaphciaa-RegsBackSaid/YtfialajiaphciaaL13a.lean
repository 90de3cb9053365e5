/- What the statements on registers are handed. -/
import Derived.Test.YtfialajiaphciaaRg8
import Derived.Test.YtfialajiaphciaaOpen
import Derived.Test.YtfialajiaphciaaWithin
import Derived.Laws.StructEq
import Derived.OpenShut
import Derived.ChangeKeysEq
namespace Go.Proofs.Ytfialajiaphciaa.law13
open Go.ChangeShapes Go.WideShapes Go.RowKit Go.Deep
attribute [local go_sem] uv_and uv_or uv_xor uv_andNot uv_shr uv_shl uv_add uv_sub uv_neg uv_beq uv_beq0 uv_beq1 uv_bne uv_bne0 u64_signed uv_not sv_i64 sv_shr uv_sv ones_shr sv_w64 uv_and1 uv_mul4 uv_4mul uv_add4

theorem cellsAsk : Try.prog.cellsOf 63 = 18 := by kernel_rfl
theorem cellsRegs : Try.prog.cellsOf 60 = 15 := by kernel_rfl
theorem cellsSys : Try.prog.cellsOf 58 = 6 := by kernel_rfl
theorem cellsX : Try.prog.cellsOf 56 = 8 := by kernel_rfl
theorem cellsU : Try.prog.cellsOf 23 = 1 := by kernel_rfl
theorem cellsI : Try.prog.cellsOf 3 = 1 := by kernel_rfl
theorem cellsL : Try.prog.cellsOf 61 = 1 := by kernel_rfl

def askA (r : RG) (K : Int) (V : BitVec 64) (p : Option Addr) (l c : Nat) : Array Value :=
  #[.int .u64 (uv r.x0), .int .u64 (uv r.x1), .int .u64 (uv r.x2), .int .u64 (uv r.x3), .int .u64 (uv r.x4), .int .u64 (uv r.x5), .int .u64 (uv r.x6), .int .u64 (uv r.x7), .int .u64 (uv r.pc), .int .u64 (uv r.s0), .int .u64 (uv r.s1), .int .u64 (uv r.s2), .int .u64 (uv r.s3), .int .u64 (uv r.s4), .int .u64 (uv r.s5), .int .i64 K, .int .u64 (uv V), .slice p l c]
def AskAt (w : World) (b o : Nat) (r : RG) (K : Int) (V : BitVec 64) (p : Option Addr) (l c : Nat) : Prop :=
  ∀ j, j < 18 → w.cell? ⟨b, o + j, none⟩ = (askA r K V p l c)[j]?

theorem u_open {H : Type} {enc : TypeId × Value → H} {w : World} {base : Nat} {spare : Nat → Bool} {held : Bool} {n : Nat} {c : Value} {y : DataW H × List MemPlace} (h : DataW.trod enc Try.prog w base spare held n 23 [c] = some y) :
    ∃ x : BitVec 64, c = .int .u64 (uv x) := by
  obtain ⟨v, e, _, wv⟩ := DataW.trod_int Try.underlying23 h
  simp at e
  obtain ⟨x, rfl⟩ := wf_u64 wv
  exact ⟨x, e⟩
theorem ask_open {H : Type} {enc : TypeId × Value → H} {w : World} {base : Nat} {spare : Nat → Bool} {held : Bool} {n b o : Nat} (h : ElemAt enc Try.prog w base spare held n 63 b o) :
    ∃ (r : RG) (K : Int) (V : BitVec 64) (p : Option Addr) (l c : Nat), AskAt w b o r K V p l c ∧ (∃ ns, ns.length = l ∧ IntsL w p ns) ∧ l ≤ maxLen := by
  obtain ⟨cs, y, hl, hat, htr⟩ := h
  rw [cellsAsk] at hl hat
  match cs, hl with
  | [c0, c1, c2, c3, c4, c5, c6, c7, c8, c9, c10, c11, c12, c13, c14, c15, c16, c17], _ =>
    obtain ⟨ys, r, _, _, _, hyl, hg⟩ := DataW.trod_struct Try.underlying63 htr
    match ys, hyl with
    | [y0, y1, y2, y3], _ =>
      have g0 := hg 0 _ rfl
      have g1 := hg 1 _ rfl
      have g2 := hg 2 _ rfl
      have g3 := hg 3 _ rfl
      simp [cellsU, cellsRegs, cellsI, cellsL] at g0 g1 g2 g3
      obtain ⟨xs, r2, _, _, _, hxl, hx⟩ := DataW.trod_struct Try.underlying60 g0
      match xs, hxl with
      | [x0, x1, x2], _ =>
        have i0 := hx 0 _ rfl
        have i1 := hx 1 _ rfl
        have i2 := hx 2 _ rfl
        simp [cellsU, cellsSys, cellsX] at i0 i1 i2
        obtain ⟨us, r3, _, _, _, hul, hu⟩ := DataW.trod_array Try.underlying56 i0
        obtain ⟨vs, r4, _, _, _, hvl, hv⟩ := DataW.trod_struct Try.underlying58 i2
        match us, hul, vs, hvl with
        | [u0, u1, u2, u3, u4, u5, u6, u7], _, [v0, v1, v2, v3, v4, v5], _ =>
          have a0 := hu 0 (by omega)
          have a1 := hu 1 (by omega)
          have a2 := hu 2 (by omega)
          have a3 := hu 3 (by omega)
          have a4 := hu 4 (by omega)
          have a5 := hu 5 (by omega)
          have a6 := hu 6 (by omega)
          have a7 := hu 7 (by omega)
          have b0 := hv 0 _ rfl
          have b1 := hv 1 _ rfl
          have b2 := hv 2 _ rfl
          have b3 := hv 3 _ rfl
          have b4 := hv 4 _ rfl
          have b5 := hv 5 _ rfl
          simp [cellsU] at a0 a1 a2 a3 a4 a5 a6 a7 b0 b1 b2 b3 b4 b5
          obtain ⟨q0, rfl⟩ := u_open a0
          obtain ⟨q1, rfl⟩ := u_open a1
          obtain ⟨q2, rfl⟩ := u_open a2
          obtain ⟨q3, rfl⟩ := u_open a3
          obtain ⟨q4, rfl⟩ := u_open a4
          obtain ⟨q5, rfl⟩ := u_open a5
          obtain ⟨q6, rfl⟩ := u_open a6
          obtain ⟨q7, rfl⟩ := u_open a7
          obtain ⟨q8, rfl⟩ := u_open i1
          obtain ⟨q9, rfl⟩ := u_open b0
          obtain ⟨q10, rfl⟩ := u_open b1
          obtain ⟨q11, rfl⟩ := u_open b2
          obtain ⟨q12, rfl⟩ := u_open b3
          obtain ⟨q13, rfl⟩ := u_open b4
          obtain ⟨q14, rfl⟩ := u_open b5
          obtain ⟨K, e1, _, _⟩ := DataW.trod_int Try.underlying3 g1
          obtain ⟨V, rfl⟩ := u_open g2
          obtain ⟨p, l, c, e3⟩ := Go.Joins.slice_form Try.underlying61 g3
          simp at e1 e3
          subst e1 e3
          refine ⟨⟨q0, q1, q2, q3, q4, q5, q6, q7, q8, q9, q10, q11, q12, q13, q14⟩, K, V, p, l, c, fun j hj => by rw [hat j hj]; simp [askA], ?_⟩
          obtain ⟨fb, fo, q, hp, hlc, hcm, hel⟩ := open_elems Try.underlying61 (by rw [cellsI]; omega) g3
          rw [cellsI] at hel
          have hx : ∀ j, j < l → ∃ x : Int, w.cell? ⟨fb, fo + j, none⟩ = some (.int .i64 x) := fun j hj => by
            obtain ⟨cs', y', hl', hat', htr'⟩ := hel j hj
            rw [cellsI] at hl' hat'
            match cs', hl' with
            | [c'], _ =>
              obtain ⟨x, e, _, _⟩ := DataW.trod_int Try.underlying3 htr'
              simp at e
              subst e
              exact ⟨x, by simpa using hat' 0 (by omega)⟩
          obtain ⟨ns, hnl, hns⟩ := exists_list l hx
          exact ⟨⟨ns, hnl, fb, fo, fun h => hp (by omega), hns⟩, Nat.le_trans hlc hcm⟩

theorem stoodRegs : Try.prog.stoodInHeld 60 = false := by kernel_rfl
theorem guardRegs : Try.prog.eqGuardType Try.prog.depth 60 = false := by kernel_rfl
theorem stoodRoot : Try.prog.stoodInHeld 28 = false := by kernel_rfl
theorem guardRoot : Try.prog.eqGuardType Try.prog.depth 28 = false := by kernel_rfl
theorem neq_root (a : Bool) (b c : Int) (w : World) : (binOp .neq 28 (.agg #[.bool a, .int .i64 b, .int .i64 c]) (.agg #[.bool a, .int .i64 b, .int .i64 c])).run Try.prog w = .ok (.bool false) w := by
  have h := stoodRoot
  have k := @Try.underlying28
  have k3 := @Try.underlying3
  have k4 := @Try.underlying4
  go_simp
theorem infoU : (Try.prog.info? 23).isSome = true := by kernel_rfl
set_option maxRecDepth 100000 in
theorem eq_x (d : Nat) (a0 a1 a2 a3 a4 a5 a6 a7 : Int) (w : World) :
    (Op.equalIn (d + 2) 56 (.agg #[.int .u64 a0, .int .u64 a1, .int .u64 a2, .int .u64 a3, .int .u64 a4, .int .u64 a5, .int .u64 a6, .int .u64 a7]) (.agg #[.int .u64 a0, .int .u64 a1, .int .u64 a2, .int .u64 a3, .int .u64 a4, .int .u64 a5, .int .u64 a6, .int .u64 a7])).run Try.prog w = .ok true w := by
  obtain ⟨i, hi⟩ := Option.isSome_iff_exists.1 infoU
  rw [run_equalIn_array w (d + 1) _ _ Try.underlying56 hi, cellsU]
  have hr : List.range 8 = [0, 1, 2, 3, 4, 5, 6, 7] := rfl
  have k4 := @Try.underlying23
  rw [hr]
  simp only [Op.eqItems]
  go_simp
set_option maxRecDepth 100000 in
set_option maxHeartbeats 4000000 in
theorem neq_regs (r : RG) (w : World) : (binOp .neq 60 (.agg (rgA r)) (.agg (rgA r))).run Try.prog w = .ok (.bool false) w := by
  have h := stoodRegs
  have k := @Try.underlying60
  have h2 : Try.prog.stoodInHeld 58 = false := by kernel_rfl
  have k4 := @Try.underlying23
  have k5 := @Try.underlying58
  have hx := eq_x 9997
  unfold rgA
  go_simp

theorem num_any (x : Int) (w : World) : Calls Try.prog 29 #[.int .i64 x] w fun e w' => e = .returned (.int .i64 x) ∧ w = w' := by
  go_enter Try.func29, Try.ntmps29
  go_wp2
  go_ret
  exact ⟨rfl, rfl⟩
theorem next_c (w : World) : Calls Try.prog 36 #[.agg (rgA zeroRG), .slice none 0 0] w fun e w' => e = .returned (.agg (rgA { zeroRG with pc := 4#64 })) ∧ Below w.heap.size w w' :=
  gnext zeroRG none 0 0 [] w rfl (by omega) ⟨0, 0, fun h => by simp at h, fun j n hj => by simp at hj⟩
theorem field_pc (r : RG) (w : World) : (Instr.field 60 (.agg (rgA r)) 1).run Try.prog w = .ok (.int .u64 (uv r.pc)) w := by
  have k := @Try.underlying60
  have k4 := @Try.underlying23
  unfold rgA
  simp [Instr.field, asAgg, run_underlying k, go_sem]
set_option maxRecDepth 100000 in
set_option maxHeartbeats 4000000 in
theorem wakes_1 (w : World) : Calls Try.prog 38 #[] w fun e w' => e = .returned (.bool true) ∧ Below w.heap.size w w' := by
  go_enter Try.func38, Try.ntmps38
  go_wp2_with fail
  refine (next_c _).mono ?_
  rintro e w1 ⟨rfl, hb1⟩
  have hf := field_pc
  go_wp2
  go_ret
  exact ⟨rfl, hb1⟩
end Go.Proofs.Ytfialajiaphciaa.law13
