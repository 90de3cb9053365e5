/- The contracts of reading an instruction's word: insn.Of, and the reference's Of. -/
import Derived.Test.YtmbgcfgmoepgbaaIw
import Derived.Test.YtmbgcfgmoepgbaaWb
import Derived.Test.YtmbgcfgmoepgbaaRins
import Derived.Test.YtmbgcfgmoepgbaaH
namespace Go.Proofs.Ytmbgcfgmoepgbaa
open Go.RowKit
attribute [local go_sem] uv_and uv_or uv_xor uv_andNot uv_shr uv_shl uv_add uv_sub uv_neg uv_beq uv_beq0 uv_beq1 uv_bne0 u64_signed uv_not sv_i64 sv_shr uv_sv ones_shr uv_and4095 u3_and u3_or u3_and7 u3_and4095 u3_shr27 u3_shr24 u3_shr21 u3_shr18 u3_shl27 u3_shl24 u3_shl21 u3_shl18 u3_uv u3_i64 u3_w64 u3_u64 sv_w64 u3_beq u3_bne

def okOf (w : BitVec 32) : Bool := okI (opD w) (dD w) (nD w) (mD w) (immD w) && (wordB (opD w) (dD w) (nD w) (mD w) (immD w) == w)

set_option maxHeartbeats 1000000 in
theorem part_any (a n : Int) (x : BitVec 32) (p : Addr) (w : World) (hf : fitsB a n = true) (hc : w.cell? p = some (.int .u32 (u3 x))) :
    Calls Try.prog 23 #[.int .i64 a, .int .i64 n, .pointer (some p)] w fun e w' => e = .returned (.int .i64 (sv (getB (x.setWidth 64) a n))) ∧ Below w.heap.size w w' := by
  have H := Lib.hid hf
  clear hf
  go_enter Try.func23, Try.ntmps23
  go_wp2_with (go_at_call 24; refine (get_yes _ _ _ _ H.out).mono ?_; rintro e w1 ⟨rfl, hb1⟩)
  go_ret
  exact ⟨rfl, hb1⟩
/-- the word, and the place of the answer, in a later world -/
def Kept (k : Nat) (x : BitVec 32) (w : World) : Prop :=
  (w.cell? ⟨k, 0, none⟩ = some (.int .u32 (u3 x)) ∧ k + 1 < w.heap.size) ∧
  (w.cell? ⟨k + 1, 0, none⟩ = some (.int .i64 0) ∧ w.cell? ⟨k + 1, 1, none⟩ = some (.int .i64 0) ∧ w.cell? ⟨k + 1, 2, none⟩ = some (.int .i64 0) ∧ w.cell? ⟨k + 1, 3, none⟩ = some (.int .i64 0) ∧ w.cell? ⟨k + 1, 4, none⟩ = some (.int .i64 0)) ∧
  (w.frozen? ⟨k + 1, 0, none⟩ = false ∧ w.frozen? ⟨k + 1, 1, none⟩ = false ∧ w.frozen? ⟨k + 1, 2, none⟩ = false ∧ w.frozen? ⟨k + 1, 3, none⟩ = false ∧ w.frozen? ⟨k + 1, 4, none⟩ = false)
theorem kept_next {k : Nat} {x : BitVec 32} {W w1 : World} (h : Kept k x W) (hb : Below W.heap.size W w1) : Kept k x w1 := by
  obtain ⟨⟨a, z⟩, ⟨c0, c1, c2, c3, c4⟩, f0, f1, f2, f3, f4⟩ := h
  have hs := hb.size
  exact ⟨⟨cell_later hb a, by omega⟩, ⟨cell_later hb c0, cell_later hb c1, cell_later hb c2, cell_later hb c3, cell_later hb c4⟩,
    (hb.frozen z).trans f0, (hb.frozen z).trans f1, (hb.frozen z).trans f2, (hb.frozen z).trans f3, (hb.frozen z).trans f4⟩
theorem new5 {w w1 : World} {x y z u v : Value} {t : TypeId} (hb : Below (w.alloc (.cells #[x, y, z, u, v] t)).heap.size (w.alloc (.cells #[x, y, z, u, v] t)) w1) :
    w1.cell? ⟨w.heap.size, 0, none⟩ = some x ∧ w1.cell? ⟨w.heap.size, 1, none⟩ = some y ∧ w1.cell? ⟨w.heap.size, 2, none⟩ = some z ∧ w1.cell? ⟨w.heap.size, 3, none⟩ = some u ∧ w1.cell? ⟨w.heap.size, 4, none⟩ = some v := by
  refine ⟨?_, ?_, ?_, ?_, ?_⟩ <;> (rw [hb.cell (by simp)]; simp [go_sem])
theorem kept_start (w : World) (x : BitVec 32) (t u : TypeId) : Kept w.heap.size x ((w.alloc (.cells #[.int .u32 (u3 x)] t)).alloc (.cells #[.int .i64 0, .int .i64 0, .int .i64 0, .int .i64 0, .int .i64 0] u)) := by
  refine ⟨⟨?_, ?_⟩, ⟨?_, ?_, ?_, ?_, ?_⟩, ?_, ?_, ?_, ?_, ?_⟩ <;> simp [go_sem]

set_option maxHeartbeats 2000000 in
theorem of_yes (x : BitVec 32) (w : World) (h : okOf x = true) :
    Calls Try.prog 15 #[.int .u32 (u3 x)] w fun e w' => e = .returned (.tuple #[.agg #[.int .i64 (opD x), .int .i64 (dD x), .int .i64 (nD x), .int .i64 (mD x), .int .i64 (immD x)], .int .i64 0]) ∧ Below w.heap.size w w' := by
  have hh := h
  unfold okOf at hh
  rw [Bool.and_eq_true, beq_iff_eq] at hh
  have H1 := Lib.hid hh.1
  have H2 := Lib.hid hh.2
  have q1 := Lib.hid (opD_own x)
  have q2 := Lib.hid (dD_own x)
  have q3 := Lib.hid (nD_own x)
  have q4 := Lib.hid (mD_own x)
  have q5 := immD_own x
  have K0 := kept_start w x 27 26
  clear h hh
  go_enter Try.func15, Try.ntmps15
  go_wp2_with (first | (go_at_call 25; refine (sign_yes _ _ _ (by decide)).mono ?_; rintro e w1 ⟨rfl, rfl⟩))
  refine (part_any _ _ _ _ _ (by decide) K0.1.1).mono ?_
  rintro e w1 ⟨rfl, hb1⟩
  have K1 := kept_next K0 hb1
  have s1 : Below w.heap.size w w1 := (((Below.refl _ _).alloc (Nat.le_refl _) _).alloc (by simp) _).trans (hb1.mono (by simp; omega))
  clear K0 hb1
  rw [q1.out]
  go_wp2_with fail
  refine (part_any _ _ _ _ _ (by decide) K1.1.1).mono ?_
  rintro e w2 ⟨rfl, hb2⟩
  have K2 := kept_next K1 hb2
  have s2 := (below_next s1 (by have := K1.1.2; omega) hb2).1
  clear K1 hb2 s1
  rw [q2.out]
  go_wp2_with fail
  refine (part_any _ _ _ _ _ (by decide) K2.1.1).mono ?_
  rintro e w3 ⟨rfl, hb3⟩
  have K3 := kept_next K2 hb3
  have s3 := (below_next s2 (by have := K2.1.2; omega) hb3).1
  clear K2 hb3 s2
  rw [q3.out]
  go_wp2_with fail
  refine (part_any _ _ _ _ _ (by decide) K3.1.1).mono ?_
  rintro e w4 ⟨rfl, hb4⟩
  have K4 := kept_next K3 hb4
  have s4 := (below_next s3 (by have := K3.1.2; omega) hb4).1
  have z4 := K4.1.2
  clear K3 hb4 s3
  rw [q4.out]
  go_wp2_with fail
  refine (word_yes _ _ _ _ _ _ H1.out).mono ?_
  rintro e w5 ⟨rfl, hb5⟩
  have K5 := kept_next (kept_next K4 ((Below.refl _ _).alloc (Nat.le_refl _) _)) hb5
  obtain ⟨c0, c1, c2, c3, c4⟩ := new5 hb5
  obtain ⟨s5, z5⟩ := below_new s4 (by omega) hb5
  clear K4 hb5
  rw [H2.out]
  obtain ⟨⟨k0, k1⟩, ⟨r0, r1, r2, r3, r4⟩, f0, f1, f2, f3, f4⟩ := K5
  go_wp2
  refine bodyPost_ret (v := .tuple #[.agg #[.int .i64 (opD x), .int .i64 (dD x), .int .i64 (nD x), .int .i64 (mD x), .int .i64 (immD x)], .int .i64 0]) (by simp [results, Try.results15, go_sem, r0, r1, r2, r3, r4]) rfl ⟨rfl, ?_⟩
  exact ((((s5.setCell (by simp) _).setCell (by simp) _).setCell (by simp) _).setCell (by simp) _).setCell (by simp) _
set_option maxHeartbeats 2000000 in
theorem of_no1 (x : BitVec 32) (w : World) (h : okI (opD x) (dD x) (nD x) (mD x) (immD x) = false) :
    Calls Try.prog 15 #[.int .u32 (u3 x)] w fun e w' => e = .returned (.tuple #[.agg #[.int .i64 0, .int .i64 0, .int .i64 0, .int .i64 0, .int .i64 0], .int .i64 9]) ∧ Below w.heap.size w w' := by
  have H1 := Lib.hid h
  have q1 := Lib.hid (opD_own x)
  have q2 := Lib.hid (dD_own x)
  have q3 := Lib.hid (nD_own x)
  have q4 := Lib.hid (mD_own x)
  have q5 := immD_own x
  have K0 := kept_start w x 27 26
  clear h
  go_enter Try.func15, Try.ntmps15
  go_wp2_with (first | (go_at_call 25; refine (sign_yes _ _ _ (by decide)).mono ?_; rintro e w1 ⟨rfl, rfl⟩))
  refine (part_any _ _ _ _ _ (by decide) K0.1.1).mono ?_
  rintro e w1 ⟨rfl, hb1⟩
  have K1 := kept_next K0 hb1
  have s1 : Below w.heap.size w w1 := (((Below.refl _ _).alloc (Nat.le_refl _) _).alloc (by simp) _).trans (hb1.mono (by simp; omega))
  clear K0 hb1
  rw [q1.out]
  go_wp2_with fail
  refine (part_any _ _ _ _ _ (by decide) K1.1.1).mono ?_
  rintro e w2 ⟨rfl, hb2⟩
  have K2 := kept_next K1 hb2
  have s2 := (below_next s1 (by have := K1.1.2; omega) hb2).1
  clear K1 hb2 s1
  rw [q2.out]
  go_wp2_with fail
  refine (part_any _ _ _ _ _ (by decide) K2.1.1).mono ?_
  rintro e w3 ⟨rfl, hb3⟩
  have K3 := kept_next K2 hb3
  have s3 := (below_next s2 (by have := K2.1.2; omega) hb3).1
  clear K2 hb3 s2
  rw [q3.out]
  go_wp2_with fail
  refine (part_any _ _ _ _ _ (by decide) K3.1.1).mono ?_
  rintro e w4 ⟨rfl, hb4⟩
  have K4 := kept_next K3 hb4
  have s4 := (below_next s3 (by have := K3.1.2; omega) hb4).1
  have z4 := K4.1.2
  clear K3 hb4 s3
  rw [q4.out]
  go_wp2_with fail
  refine (word_no _ _ _ _ _ _ H1.out).mono ?_
  rintro e w5 ⟨rfl, hb5⟩
  have K5 := kept_next (kept_next K4 ((Below.refl _ _).alloc (Nat.le_refl _) _)) hb5
  obtain ⟨c0, c1, c2, c3, c4⟩ := new5 hb5
  obtain ⟨s5, z5⟩ := below_new s4 (by omega) hb5
  clear K4 hb5
  obtain ⟨⟨k0, k1⟩, ⟨r0, r1, r2, r3, r4⟩, f0, f1, f2, f3, f4⟩ := K5
  go_wp2
  refine bodyPost_ret (v := .tuple #[.agg #[.int .i64 0, .int .i64 0, .int .i64 0, .int .i64 0, .int .i64 0], .int .i64 9]) (by simp [results, Try.results15, go_sem, r0, r1, r2, r3, r4]) rfl ⟨rfl, ?_⟩
  exact ((((s5.setCell (by simp) _).setCell (by simp) _).setCell (by simp) _).setCell (by simp) _).setCell (by simp) _
set_option maxHeartbeats 2000000 in
theorem of_no2 (x : BitVec 32) (w : World) (h : okI (opD x) (dD x) (nD x) (mD x) (immD x) = true) (h2 : (wordB (opD x) (dD x) (nD x) (mD x) (immD x) == x) = false) :
    Calls Try.prog 15 #[.int .u32 (u3 x)] w fun e w' => e = .returned (.tuple #[.agg #[.int .i64 0, .int .i64 0, .int .i64 0, .int .i64 0, .int .i64 0], .int .i64 9]) ∧ Below w.heap.size w w' := by
  have H1 := Lib.hid h
  have h3 : (wordB (opD x) (dD x) (nD x) (mD x) (immD x) != x) = true := by simp only [bne, h2]; rfl
  have H3 := Lib.hid h3
  have q1 := Lib.hid (opD_own x)
  have q2 := Lib.hid (dD_own x)
  have q3 := Lib.hid (nD_own x)
  have q4 := Lib.hid (mD_own x)
  have q5 := immD_own x
  have K0 := kept_start w x 27 26
  clear h h2 h3
  go_enter Try.func15, Try.ntmps15
  go_wp2_with (first | (go_at_call 25; refine (sign_yes _ _ _ (by decide)).mono ?_; rintro e w1 ⟨rfl, rfl⟩))
  refine (part_any _ _ _ _ _ (by decide) K0.1.1).mono ?_
  rintro e w1 ⟨rfl, hb1⟩
  have K1 := kept_next K0 hb1
  have s1 : Below w.heap.size w w1 := (((Below.refl _ _).alloc (Nat.le_refl _) _).alloc (by simp) _).trans (hb1.mono (by simp; omega))
  clear K0 hb1
  rw [q1.out]
  go_wp2_with fail
  refine (part_any _ _ _ _ _ (by decide) K1.1.1).mono ?_
  rintro e w2 ⟨rfl, hb2⟩
  have K2 := kept_next K1 hb2
  have s2 := (below_next s1 (by have := K1.1.2; omega) hb2).1
  clear K1 hb2 s1
  rw [q2.out]
  go_wp2_with fail
  refine (part_any _ _ _ _ _ (by decide) K2.1.1).mono ?_
  rintro e w3 ⟨rfl, hb3⟩
  have K3 := kept_next K2 hb3
  have s3 := (below_next s2 (by have := K2.1.2; omega) hb3).1
  clear K2 hb3 s2
  rw [q3.out]
  go_wp2_with fail
  refine (part_any _ _ _ _ _ (by decide) K3.1.1).mono ?_
  rintro e w4 ⟨rfl, hb4⟩
  have K4 := kept_next K3 hb4
  have s4 := (below_next s3 (by have := K3.1.2; omega) hb4).1
  have z4 := K4.1.2
  clear K3 hb4 s3
  rw [q4.out]
  go_wp2_with fail
  refine (word_yes _ _ _ _ _ _ H1.out).mono ?_
  rintro e w5 ⟨rfl, hb5⟩
  have K5 := kept_next (kept_next K4 ((Below.refl _ _).alloc (Nat.le_refl _) _)) hb5
  obtain ⟨c0, c1, c2, c3, c4⟩ := new5 hb5
  obtain ⟨s5, z5⟩ := below_new s4 (by omega) hb5
  clear K4 hb5
  have h3 := H3.out
  obtain ⟨⟨k0, k1⟩, ⟨r0, r1, r2, r3, r4⟩, f0, f1, f2, f3, f4⟩ := K5
  go_wp2
  refine bodyPost_ret (v := .tuple #[.agg #[.int .i64 0, .int .i64 0, .int .i64 0, .int .i64 0, .int .i64 0], .int .i64 9]) (by simp [results, Try.results15, go_sem, r0, r1, r2, r3, r4]) rfl ⟨rfl, ?_⟩
  exact ((((s5.setCell (by simp) _).setCell (by simp) _).setCell (by simp) _).setCell (by simp) _).setCell (by simp) _
theorem of_no (x : BitVec 32) (w : World) (h : okOf x = false) :
    Calls Try.prog 15 #[.int .u32 (u3 x)] w fun e w' => e = .returned (.tuple #[.agg #[.int .i64 0, .int .i64 0, .int .i64 0, .int .i64 0, .int .i64 0], .int .i64 9]) ∧ Below w.heap.size w w' := by
  rcases hk : okI (opD x) (dD x) (nD x) (mD x) (immD x) with _ | _
  · exact of_no1 x w hk
  · unfold okOf at h
    rw [hk, Bool.true_and] at h
    exact of_no2 x w hk h
end Go.Proofs.Ytmbgcfgmoepgbaa
