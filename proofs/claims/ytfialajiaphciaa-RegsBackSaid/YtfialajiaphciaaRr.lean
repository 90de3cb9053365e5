/- The contracts of the reference's roots. -/
import Derived.Test.YtfialajiaphciaaRootOf
namespace Go.Proofs.Ytfialajiaphciaa
open Go.RowKit
attribute [local go_sem] uv_and uv_or uv_xor uv_andNot uv_shr uv_shl uv_add uv_sub uv_neg uv_beq uv_beq0 uv_beq1 uv_bne uv_bne0 u64_signed uv_not sv_i64 sv_shr uv_sv ones_shr sv_w64 uv_and1

theorem rnum_yes (x hi : Int) (w : World) (h : btwB x 0 hi = true) :
    Calls Try.prog 42 #[.int .i64 x, .int .i64 hi] w fun e w' => e = .returned (.bool true) ∧ w = w' := by
  obtain ⟨h1, h2⟩ := btw_of_yes h
  clear h
  go_enter Try.func42, Try.ntmps42
  go_wp2
  go_ret
  exact ⟨rfl, rfl⟩
theorem rnum_no (x hi : Int) (w : World) (h : btwB x 0 hi = false) :
    Calls Try.prog 42 #[.int .i64 x, .int .i64 hi] w fun e w' => e = .returned (.bool false) ∧ w = w' := by
  rcases btw_of_no h with h1 | ⟨h1, h2⟩
  all_goals
    clear h
    go_enter Try.func42, Try.ntmps42
    go_wp2
    go_ret
    exact ⟨by first | rfl | (simp; omega), rfl⟩
theorem rnum_any (x hi : Int) (b : Bool) (w : World) (h : btwB x 0 hi = b) :
    Calls Try.prog 42 #[.int .i64 x, .int .i64 hi] w fun e w' => e = .returned (.bool b) ∧ w = w' := by
  cases b
  · exact rnum_no x hi w h
  · exact rnum_yes x hi w h
theorem rpage_any (x : Int) (b : Bool) (w : World) (h : btwB x 0 4095 = b) :
    Calls Try.prog 41 #[.int .i64 x] w fun e w' => e = .returned (.bool b) ∧ w = w' := by
  have H := Lib.hid h
  clear h
  go_enter Try.func41, Try.ntmps41
  go_wp2_with (go_at_call 42; refine (rnum_any _ _ _ _ H.out).mono ?_; rintro e w1 ⟨rfl, rfl⟩)
  go_ret
  exact ⟨rfl, rfl⟩
theorem rroot_any (on : Bool) (f t : Int) (w : World) :
    Calls Try.prog 10 #[.agg #[.bool on, .int .i64 f, .int .i64 t]] w fun e w' => e = .returned (.bool (okR f t)) ∧ Below w.heap.size w w' := by
  rcases h1 : btwB f 0 4095 with _ | _ <;> rcases h2 : btwB t 0 15 with _ | _
  all_goals
    have HV := Lib.hid (show okR f t = (_ && _) from by unfold okR; rw [h1, h2])
    have H1 := Lib.hid h1
    have H2 := Lib.hid h2
    clear h1 h2
    go_enter Try.func10, Try.ntmps10
    go_wp2_with (first | (go_at_call 41; refine (rpage_any _ _ _ H1.out).mono ?_; rintro e w1 ⟨rfl, rfl⟩) | (go_at_call 42; refine (rnum_any _ _ _ _ H2.out).mono ?_; rintro e w1 ⟨rfl, rfl⟩))
    go_ret
    exact ⟨by rw [HV.out]; rfl, (Below.refl _ _).alloc (Nat.le_refl _) _⟩
theorem rbit (a : Int) (on : Bool) (w : World) :
    Calls Try.prog 44 #[.int .i64 a, .bool on] w fun e w' => e = .returned (.agg #[.int .i64 a, .int .i64 1, .int .u64 (uv (onB on))]) ∧ Below w.heap.size w w' := by
  cases on
  all_goals
    go_enter Try.func44, Try.ntmps44
    go_wp2
    refine bodyPost_ret (v := .agg #[.int .i64 a, .int .i64 1, .int .u64 (uv (onB _))]) (by simp [results, Try.results44, go_sem]; rfl) rfl ⟨rfl, ?_⟩
    first | exact (((((Below.refl _ _).alloc (Nat.le_refl _) _).alloc (by simp) _).setCell (by simp) _).setCell (by simp) _).setCell (by simp) _ | exact ((Below.refl _ _).alloc (Nat.le_refl _) _).alloc (by simp) _
theorem rootL_at (on : Bool) (f t : Int) (w : World) (u : TypeId) :
    FieldsL (w.alloc (.cells #[.int .i64 0, .int .i64 1, .int .u64 (uv (onB on)), .int .i64 12, .int .i64 12, .int .u64 (uv (BitVec.ofInt 64 f)), .int .i64 48, .int .i64 4, .int .u64 (uv (BitVec.ofInt 64 t))] u)) (some ⟨w.heap.size, 0, none⟩) (rootL on f t) := by
  refine ⟨w.heap.size, 0, fun _ => rfl, ?_⟩
  intro j a k x hj
  match j, hj with
  | 0, hj => simp [rootL] at hj; obtain ⟨rfl, rfl, rfl⟩ := hj; simp [go_sem]
  | 1, hj => simp [rootL] at hj; obtain ⟨rfl, rfl, rfl⟩ := hj; simp [go_sem]
  | 2, hj => simp [rootL] at hj; obtain ⟨rfl, rfl, rfl⟩ := hj; simp [go_sem]
  | j + 3, hj => simp [rootL] at hj
set_option maxHeartbeats 1000000 in
theorem rrootword (on : Bool) (f t : Int) (w : World) (h : okR f t = true) :
    Calls Try.prog 11 #[.agg #[.bool on, .int .i64 f, .int .i64 t]] w fun e w' => e = .returned (.int .u64 (uv (rootB on f t))) ∧ Below w.heap.size w w' := by
  obtain ⟨T, hj⟩ := join_root on f t h
  have HJ := Lib.hid hj
  have i1 := uv_ofInt f
  have i2 := uv_ofInt t
  clear h hj
  go_enter Try.func11, Try.ntmps11
  go_wp2
  go_region_held3 (fun w' => w'.cell? ⟨w.heap.size, 0, none⟩ = some (.bool on) ∧ w'.cell? ⟨w.heap.size, 1, none⟩ = some (.int .i64 f) ∧ w'.cell? ⟨w.heap.size, 2, none⟩ = some (.int .i64 t))
    (first | go_keep | exact held3 hb1 (by assumption) | exact held3 hb2 (by assumption) | exact held3 ((Below.refl _ _).alloc (Nat.le_refl _) _) (by assumption))
    (first | (go_at_call 44; refine (rbit _ _ _).mono ?_; rintro e w1 ⟨rfl, hb1⟩) | (go_at_call 43; refine (rjoin (some ⟨w1.heap.size, 0, none⟩) 3 3 (rootL on f t) _ T 0 _ rfl (by unfold maxLen; omega) (rootL_at on f t w1 _) HJ.out).mono ?_; rintro e w2 ⟨rfl, hb2⟩))
  go_wp2
  go_ret
  have z1 := hb1.size
  simp at z1
  exact ⟨rfl, (((((Below.refl _ _).alloc (Nat.le_refl _) _).drew).trans (hb1.mono (by simp))).alloc (by omega) _).trans (hb2.mono (by simp; omega))⟩

set_option maxHeartbeats 800000 in
theorem rrof_yes (x : BitVec 64) (w : World) (h : okRof x = true) :
    Calls Try.prog 13 #[.int .u64 (uv x)] w fun e w' => e = .returned (.tuple #[.agg #[.bool (onD x), .int .i64 (partI x 12 12), .int .i64 (partI x 48 4)], .bool true]) ∧ Below w.heap.size w w' := by
  have q1 : sv (getB x 12 12) = partI x 12 12 := part_sv x 12 12 (by omega)
  have q2 : sv (getB x 48 4) = partI x 48 4 := part_sv x 48 4 (by omega)
  have q3 : onD (x >>> 0) = onD x := by rw [BitVec.ushiftRight_zero]
  have HO := Lib.hid (okR_part x)
  unfold okRof at h
  rw [beq_iff_eq] at h
  have H := Lib.hid h
  have K0 := keptr_start w 28
  clear h
  go_enter Try.func13, Try.ntmps13
  go_wp2_with fail
  refine (rset x 0 _ (by omega)).mono ?_
  rintro e w0 ⟨rfl, rfl⟩
  rw [q3]
  go_wp2_with fail
  refine (rget _ _ _ _ (by decide)).mono ?_
  rintro e w1 ⟨rfl, hb1⟩
  have K1 := keptr_next K0 hb1
  have s1 : Below w.heap.size w w1 := ((Below.refl _ _).alloc (Nat.le_refl _) _).trans (hb1.mono (by simp))
  clear K0 hb1
  go_wp2_with fail
  refine (rget _ _ _ _ (by decide)).mono ?_
  rintro e w2 ⟨rfl, hb2⟩
  have K2 := keptr_next K1 hb2
  have z1 := K1.1
  have s2 := below_next s1 (by omega) hb2
  clear K1 hb2 s1
  go_wp2_with fail
  refine (rrootword _ _ _ _ HO.out).mono ?_
  rintro e w3 ⟨rfl, hb3⟩
  have K3 := keptr_next (keptr_next K2 ((Below.refl _ _).alloc (Nat.le_refl _) _)) hb3
  obtain ⟨g0, g1, g2⟩ := new3 hb3
  have s3 := below_new s2.1 s2.2 hb3
  clear K2 hb3 s2
  obtain ⟨z3, ⟨c0, c1, c2⟩, f0, f1, f2⟩ := K3
  have h := H.out
  rw [h]
  go_wp2
  refine bodyPost_ret (v := .tuple #[.agg #[.bool (onD x), .int .i64 (partI x 12 12), .int .i64 (partI x 48 4)], .bool true]) (by simp [results, Try.results13, go_sem, c0, c1, c2]) rfl ⟨rfl, ?_⟩
  exact ((s3.1.setCell (by simp) _).setCell (by simp) _).setCell (by simp) _

set_option maxHeartbeats 800000 in
theorem rrof_no (x : BitVec 64) (w : World) (h : okRof x = false) :
    Calls Try.prog 13 #[.int .u64 (uv x)] w fun e w' => e = .returned (.tuple #[.agg #[.bool false, .int .i64 0, .int .i64 0], .bool false]) ∧ Below w.heap.size w w' := by
  have q1 : sv (getB x 12 12) = partI x 12 12 := part_sv x 12 12 (by omega)
  have q2 : sv (getB x 48 4) = partI x 48 4 := part_sv x 48 4 (by omega)
  have q3 : onD (x >>> 0) = onD x := by rw [BitVec.ushiftRight_zero]
  have HO := Lib.hid (okR_part x)
  have h : (rootB (onD x) (partI x 12 12) (partI x 48 4) != x) = true := by unfold okRof at h; simp only [bne, h]; rfl
  have H := Lib.hid h
  have K0 := keptr_start w 28
  clear h
  go_enter Try.func13, Try.ntmps13
  go_wp2_with fail
  refine (rset x 0 _ (by omega)).mono ?_
  rintro e w0 ⟨rfl, rfl⟩
  rw [q3]
  go_wp2_with fail
  refine (rget _ _ _ _ (by decide)).mono ?_
  rintro e w1 ⟨rfl, hb1⟩
  have K1 := keptr_next K0 hb1
  have s1 : Below w.heap.size w w1 := ((Below.refl _ _).alloc (Nat.le_refl _) _).trans (hb1.mono (by simp))
  clear K0 hb1
  go_wp2_with fail
  refine (rget _ _ _ _ (by decide)).mono ?_
  rintro e w2 ⟨rfl, hb2⟩
  have K2 := keptr_next K1 hb2
  have z1 := K1.1
  have s2 := below_next s1 (by omega) hb2
  clear K1 hb2 s1
  go_wp2_with fail
  refine (rrootword _ _ _ _ HO.out).mono ?_
  rintro e w3 ⟨rfl, hb3⟩
  have K3 := keptr_next (keptr_next K2 ((Below.refl _ _).alloc (Nat.le_refl _) _)) hb3
  obtain ⟨g0, g1, g2⟩ := new3 hb3
  have s3 := below_new s2.1 s2.2 hb3
  clear K2 hb3 s2
  obtain ⟨z3, ⟨c0, c1, c2⟩, f0, f1, f2⟩ := K3
  have h := H.out
  go_wp2
  refine bodyPost_ret (v := .tuple #[.agg #[.bool false, .int .i64 0, .int .i64 0], .bool false]) (by simp [results, Try.results13, go_sem, c0, c1, c2]) rfl ⟨rfl, ?_⟩
  exact ((s3.1.setCell (by simp) _).setCell (by simp) _).setCell (by simp) _
end Go.Proofs.Ytfialajiaphciaa
