/- The contract of the reference's SynOf. -/
import Derived.Test.YtfialajiaphciaaRsyn
namespace Go.Proofs.Ytfialajiaphciaa
open Go.RowKit
attribute [local go_sem] uv_and uv_or uv_xor uv_andNot uv_shr uv_shl uv_add uv_sub uv_neg uv_beq uv_beq0 uv_beq1 uv_bne uv_bne0 u64_signed uv_not sv_i64 sv_shr uv_sv ones_shr sv_w64 uv_and1

theorem onD_part (x : BitVec 64) (a : Nat) : onD (x >>> a) = (partI x a 1 == 1) := by
  rw [onD_num, ← uv_shr]
  unfold partI
  rw [Bool.eq_iff_iff, decide_eq_true_eq, beq_iff_eq]
  exact Iff.rfl
set_option maxHeartbeats 2000000 in
theorem rsynof (x : BitVec 64) (b : Bool) (w : World) (hb : okSof x = b) :
    Calls Try.prog 20 #[.int .u64 (uv x)] w fun e w' => e = .returned (.tuple #[.agg (if b then #[.int .i64 (partI x 0 3), .int .i64 (partI x 3 2), .int .i64 (partI x 5 2), .bool (partI x 7 1 == 1), .int .i64 (partI x 8 12)] else #[.int .i64 0, .int .i64 0, .int .i64 0, .bool false, .int .i64 0]), .bool b]) ∧ Below w.heap.size w w' := by
  have HB := Lib.hid hb
  clear hb
  have q0 : sv (getB x 0 3) = partI x 0 3 := part_sv x 0 3 (by omega)
  have q1 : sv (getB x 3 2) = partI x 3 2 := part_sv x 3 2 (by omega)
  have q2 : sv (getB x 5 2) = partI x 5 2 := part_sv x 5 2 (by omega)
  have q4 : sv (getB x 8 12) = partI x 8 12 := part_sv x 8 12 (by omega)
  have q3 := onD_part x 7
  have K0 := Blk.new w #[.int .i64 0, .int .i64 0, .int .i64 0, .bool false, .int .i64 0] 43
  go_enter Try.func20, Try.ntmps20
  go_wp2_with fail
  refine (rget _ _ _ _ (by decide)).mono ?_
  rintro e w1 ⟨rfl, hb1⟩
  have K1 := K0.next hb1
  have s1 : Below w.heap.size w w1 ∧ w.heap.size ≤ w1.heap.size := ⟨((Below.refl _ _).alloc (Nat.le_refl _) _).trans (hb1.mono (by simp)), by have := hb1.size; simp at this; omega⟩
  clear K0 hb1
  go_wp2_with fail
  refine (rget _ _ _ _ (by decide)).mono ?_
  rintro e w2 ⟨rfl, hb2⟩
  have K2 := K1.next hb2
  have s2 := below_next s1.1 s1.2 hb2
  clear K1 hb2 s1
  go_wp2_with fail
  refine (rget _ _ _ _ (by decide)).mono ?_
  rintro e w3 ⟨rfl, hb3⟩
  have K3 := K2.next hb3
  have s3 := below_next s2.1 s2.2 hb3
  clear K2 hb3 s2
  go_wp2_with fail
  refine (rset x 7 _ (by omega)).mono ?_
  rintro e w4 ⟨rfl, rfl⟩
  go_wp2_with fail
  refine (rget _ _ _ _ (by decide)).mono ?_
  rintro e w5 ⟨rfl, hb5⟩
  have K5 := K3.next hb5
  have s5 := below_next s3.1 s3.2 hb5
  clear K3 hb5 s3
  rcases hK : okS (partI x 0 3) (partI x 3 2) (partI x 5 2) (partI x 8 12) with _ | _
  · obtain rfl : b = false := by rw [← HB.out]; unfold okSof; rw [hK]; rfl
    have HK := Lib.hid hK
    clear hK
    go_wp2_with fail
    refine (rfault _ _ _ _ _ _ _ HK.out).mono ?_
    rintro e w6 ⟨rfl, hb6⟩
    have B3 := (K5.alloc _).next hb6
    have c0 := B3.cell 0
    have c1 := B3.cell 1
    have c2 := B3.cell 2
    have c3 := B3.cell 3
    have c4 := B3.cell 4
    have f0 := B3.frozen 0
    have f1 := B3.frozen 1
    have f2 := B3.frozen 2
    have f3 := B3.frozen 3
    have f4 := B3.frozen 4
    have s6 := below_new s5.1 s5.2 hb6
    clear B3 K5 hb6 s5
    go_wp2
    refine bodyPost_ret (v := .tuple #[.agg #[.int .i64 0, .int .i64 0, .int .i64 0, .bool false, .int .i64 0], .bool false]) (by simp [results, Try.results20, go_sem, c0, c1, c2, c3, c4]) rfl ⟨rfl, ?_⟩
    exact set_five s6.1
  · have HK := Lib.hid hK
    have hO := HB.out
    unfold okSof at hO
    rw [hK, Bool.true_and] at hO
    have hOn : (synB (partI x 0 3) (partI x 3 2) (partI x 5 2) (partI x 7 1 == 1) (partI x 8 12) != x) = !b := by simp only [bne, hO]
    clear hK hO
    go_wp2_with fail
    refine (rfault _ _ _ _ _ _ _ HK.out).mono ?_
    rintro e w6 ⟨rfl, hb6⟩
    have K6 := (K5.alloc _).next hb6
    have C6 := (Blk.new w5 _ _).next hb6
    have c0 := C6.cell 0
    have c1 := C6.cell 1
    have c2 := C6.cell 2
    have c3 := C6.cell 3
    have c4 := C6.cell 4
    have s6 := below_new s5.1 s5.2 hb6
    clear K5 hb6 s5
    go_wp2_with fail
    refine (rsyn _ _ _ _ _ _ HK.out).mono ?_
    rintro e w7 ⟨rfl, hb7⟩
    have B3 := K6.next hb7
    have C7 := C6.next hb7
    have s7 := below_next s6.1 s6.2 hb7
    clear c0 c1 c2 c3 c4 C6 K6 s6 hb7
    have c0 := B3.cell 0
    have c1 := B3.cell 1
    have c2 := B3.cell 2
    have c3 := B3.cell 3
    have c4 := B3.cell 4
    have f0 := B3.frozen 0
    have f1 := B3.frozen 1
    have f2 := B3.frozen 2
    have f3 := B3.frozen 3
    have f4 := B3.frozen 4
    have d0 := C7.cell 0
    have d1 := C7.cell 1
    have d2 := C7.cell 2
    have d3 := C7.cell 3
    have d4 := C7.cell 4
    clear B3 C7
    cases b
    · simp only [Bool.not_false] at hOn
      go_wp2
      refine bodyPost_ret (v := .tuple #[.agg #[.int .i64 0, .int .i64 0, .int .i64 0, .bool false, .int .i64 0], .bool false]) (by simp [results, Try.results20, go_sem, c0, c1, c2, c3, c4]) rfl ⟨rfl, ?_⟩
      exact set_five s7.1
    · simp only [Bool.not_true] at hOn
      go_wp2
      refine bodyPost_ret (v := .tuple #[.agg #[.int .i64 (partI x 0 3), .int .i64 (partI x 3 2), .int .i64 (partI x 5 2), .bool (partI x 7 1 == 1), .int .i64 (partI x 8 12)], .bool true]) (by simp [results, Try.results20, go_sem, c0, c1, c2, c3, c4]) rfl ⟨rfl, ?_⟩
      exact set_five s7.1
end Go.Proofs.Ytfialajiaphciaa
