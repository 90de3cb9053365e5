/- The contracts of reading a root's word: root.Of, and the reference's RootWord and RootOf. -/
import Derived.Test.YtfialajiaphciaaRoot
namespace Go.Proofs.Ytfialajiaphciaa
open Go.RowKit
attribute [local go_sem] uv_and uv_or uv_xor uv_andNot uv_shr uv_shl uv_add uv_sub uv_neg uv_beq uv_beq0 uv_beq1 uv_bne uv_bne0 u64_signed uv_not sv_i64 sv_shr uv_sv ones_shr sv_w64 uv_and1

/-- the place of the answer, in a later world -/
def KeptR (k : Nat) (w : World) : Prop :=
  k < w.heap.size ∧ (w.cell? ⟨k, 0, none⟩ = some (.bool false) ∧ w.cell? ⟨k, 1, none⟩ = some (.int .i64 0) ∧ w.cell? ⟨k, 2, none⟩ = some (.int .i64 0)) ∧
  (w.frozen? ⟨k, 0, none⟩ = false ∧ w.frozen? ⟨k, 1, none⟩ = false ∧ w.frozen? ⟨k, 2, none⟩ = false)
theorem keptr_next {k : Nat} {W w1 : World} (h : KeptR k W) (hb : Below W.heap.size W w1) : KeptR k w1 := by
  obtain ⟨z, ⟨c0, c1, c2⟩, f0, f1, f2⟩ := h
  have hs := hb.size
  exact ⟨by omega, ⟨cell_later hb c0, cell_later hb c1, cell_later hb c2⟩, (hb.frozen z).trans f0, (hb.frozen z).trans f1, (hb.frozen z).trans f2⟩
theorem keptr_start (w : World) (t : TypeId) : KeptR w.heap.size (w.alloc (.cells #[.bool false, .int .i64 0, .int .i64 0] t)) := by
  refine ⟨?_, ⟨?_, ?_, ?_⟩, ?_, ?_, ?_⟩ <;> simp [go_sem]
theorem new3 {w w1 : World} {x y z : Value} {t : TypeId} (hb : Below (w.alloc (.cells #[x, y, z] t)).heap.size (w.alloc (.cells #[x, y, z] t)) w1) :
    w1.cell? ⟨w.heap.size, 0, none⟩ = some x ∧ w1.cell? ⟨w.heap.size, 1, none⟩ = some y ∧ w1.cell? ⟨w.heap.size, 2, none⟩ = some z := by
  refine ⟨?_, ?_, ?_⟩ <;> (rw [hb.cell (by simp)]; simp [go_sem])

set_option maxHeartbeats 800000 in
theorem rof_yes (x : BitVec 64) (w : World) (h : okRof x = true) :
    Calls Try.prog 12 #[.int .u64 (uv x)] w fun e w' => e = .returned (.tuple #[.agg #[.bool (onD x), .int .i64 (partI x 12 12), .int .i64 (partI x 48 4)], .int .i64 0]) ∧ Below w.heap.size w w' := by
  have q1 : sv (getB x 12 12) = partI x 12 12 := part_sv x 12 12 (by omega)
  have q2 : sv (getB x 48 4) = partI x 48 4 := part_sv x 48 4 (by omega)
  have q3 : (x &&& 1#64 == 1#64) = onD x := rfl
  have HO := Lib.hid (okR_part x)
  unfold okRof at h
  rw [beq_iff_eq] at h
  have H := Lib.hid h
  have K0 := keptr_start w 28
  clear h
  go_enter Try.func12, Try.ntmps12
  go_wp2_with fail
  refine (get_yes _ _ _ _ (by decide)).mono ?_
  rintro e w1 ⟨rfl, hb1⟩
  have K1 := keptr_next K0 hb1
  have s1 : Below w.heap.size w w1 := ((Below.refl _ _).alloc (Nat.le_refl _) _).trans (hb1.mono (by simp))
  clear K0 hb1
  go_wp2_with fail
  refine (get_yes _ _ _ _ (by decide)).mono ?_
  rintro e w2 ⟨rfl, hb2⟩
  have K2 := keptr_next K1 hb2
  have z1 := K1.1
  have s2 := below_next s1 (by omega) hb2
  clear K1 hb2 s1
  go_wp2_with fail
  refine (rword_yes _ _ _ _ HO.out).mono ?_
  rintro e w3 ⟨rfl, hb3⟩
  have K3 := keptr_next (keptr_next K2 ((Below.refl _ _).alloc (Nat.le_refl _) _)) hb3
  obtain ⟨g0, g1, g2⟩ := new3 hb3
  have s3 := below_new s2.1 s2.2 hb3
  clear K2 hb3 s2
  obtain ⟨z3, ⟨c0, c1, c2⟩, f0, f1, f2⟩ := K3
  have h := H.out
  rw [h]
  go_wp2
  refine bodyPost_ret (v := .tuple #[.agg #[.bool (onD x), .int .i64 (partI x 12 12), .int .i64 (partI x 48 4)], .int .i64 0]) (by simp [results, Try.results12, go_sem, c0, c1, c2]) rfl ⟨rfl, ?_⟩
  exact ((s3.1.setCell (by simp) _).setCell (by simp) _).setCell (by simp) _

set_option maxHeartbeats 800000 in
theorem rof_no (x : BitVec 64) (w : World) (h : okRof x = false) :
    Calls Try.prog 12 #[.int .u64 (uv x)] w fun e w' => e = .returned (.tuple #[.agg #[.bool false, .int .i64 0, .int .i64 0], .int .i64 9]) ∧ Below w.heap.size w w' := by
  have q1 : sv (getB x 12 12) = partI x 12 12 := part_sv x 12 12 (by omega)
  have q2 : sv (getB x 48 4) = partI x 48 4 := part_sv x 48 4 (by omega)
  have q3 : (x &&& 1#64 == 1#64) = onD x := rfl
  have HO := Lib.hid (okR_part x)
  have h : (rootB (onD x) (partI x 12 12) (partI x 48 4) != x) = true := by unfold okRof at h; simp only [bne, h]; rfl
  have H := Lib.hid h
  have K0 := keptr_start w 28
  clear h
  go_enter Try.func12, Try.ntmps12
  go_wp2_with fail
  refine (get_yes _ _ _ _ (by decide)).mono ?_
  rintro e w1 ⟨rfl, hb1⟩
  have K1 := keptr_next K0 hb1
  have s1 : Below w.heap.size w w1 := ((Below.refl _ _).alloc (Nat.le_refl _) _).trans (hb1.mono (by simp))
  clear K0 hb1
  go_wp2_with fail
  refine (get_yes _ _ _ _ (by decide)).mono ?_
  rintro e w2 ⟨rfl, hb2⟩
  have K2 := keptr_next K1 hb2
  have z1 := K1.1
  have s2 := below_next s1 (by omega) hb2
  clear K1 hb2 s1
  go_wp2_with fail
  refine (rword_yes _ _ _ _ HO.out).mono ?_
  rintro e w3 ⟨rfl, hb3⟩
  have K3 := keptr_next (keptr_next K2 ((Below.refl _ _).alloc (Nat.le_refl _) _)) hb3
  obtain ⟨g0, g1, g2⟩ := new3 hb3
  have s3 := below_new s2.1 s2.2 hb3
  clear K2 hb3 s2
  obtain ⟨z3, ⟨c0, c1, c2⟩, f0, f1, f2⟩ := K3
  have h := H.out
  go_wp2
  refine bodyPost_ret (v := .tuple #[.agg #[.bool false, .int .i64 0, .int .i64 0], .int .i64 9]) (by simp [results, Try.results12, go_sem, c0, c1, c2]) rfl ⟨rfl, ?_⟩
  exact ((s3.1.setCell (by simp) _).setCell (by simp) _).setCell (by simp) _

theorem rset (x : BitVec 64) (a : Nat) (w : World) (ha : a ≤ 64) :
    Calls Try.prog 46 #[.int .u64 (uv x), .int .i64 a] w fun e w' => e = .returned (.bool (onD (x >>> a))) ∧ w = w' := by
  go_enter Try.func46, Try.ntmps46
  go_wp2
  go_ret
  exact ⟨rfl, rfl⟩
end Go.Proofs.Ytfialajiaphciaa
