/- The contract of the reference's Of. -/
import Derived.Test.YtmbgcfgmoepgbaaIof
namespace Go.Proofs.Ytmbgcfgmoepgbaa
open Go.RowKit
attribute [local go_sem] uv_and uv_or uv_xor uv_andNot uv_shr uv_shl uv_add uv_sub uv_neg uv_beq uv_beq0 uv_beq1 uv_bne0 u64_signed uv_not sv_i64 sv_shr uv_sv ones_shr uv_and4095 u3_and u3_or u3_and7 u3_and4095 u3_shr27 u3_shr24 u3_shr21 u3_shr18 u3_shl27 u3_shl24 u3_shl21 u3_shl18 u3_uv u3_i64 u3_w64 u3_u64 sv_w64 u3_beq u3_bne

theorem opD_div (w : BitVec 32) : u3 w / 134217728 = opD w := rfl
theorem dD_div (w : BitVec 32) : bits .and .u32 (u3 w / 16777216) 7 = dD w := by
  have e : u3 w / (16777216 : Int) = u3 (w >>> 24) := u3_shr w 24
  rw [e, u3_and7, dD_ref]
theorem nD_div (w : BitVec 32) : bits .and .u32 (u3 w / 2097152) 7 = nD w := by
  have e : u3 w / (2097152 : Int) = u3 (w >>> 21) := u3_shr w 21
  rw [e, u3_and7, nD_ref]
theorem mD_div (w : BitVec 32) : bits .and .u32 (u3 w / 262144) 7 = mD w := by
  have e : u3 w / (262144 : Int) = u3 (w >>> 18) := u3_shr w 18
  rw [e, u3_and7, mD_ref]
theorem wrap64_in (n : Int) (h : 0 ≤ n) (h2 : n < 4294967296) : wrap64 n = n := by
  unfold wrap64; omega
/-- the place of the answer, and the instruction that was read, in a later world -/
def Kept2 (k : Nat) (o d n m i : Int) (w : World) : Prop :=
  k + 1 < w.heap.size ∧
  (w.cell? ⟨k, 0, none⟩ = some (.int .i64 0) ∧ w.cell? ⟨k, 1, none⟩ = some (.int .i64 0) ∧ w.cell? ⟨k, 2, none⟩ = some (.int .i64 0) ∧ w.cell? ⟨k, 3, none⟩ = some (.int .i64 0) ∧ w.cell? ⟨k, 4, none⟩ = some (.int .i64 0)) ∧
  (w.frozen? ⟨k, 0, none⟩ = false ∧ w.frozen? ⟨k, 1, none⟩ = false ∧ w.frozen? ⟨k, 2, none⟩ = false ∧ w.frozen? ⟨k, 3, none⟩ = false ∧ w.frozen? ⟨k, 4, none⟩ = false) ∧
  (w.cell? ⟨k + 1, 0, none⟩ = some (.int .i64 o) ∧ w.cell? ⟨k + 1, 1, none⟩ = some (.int .i64 d) ∧ w.cell? ⟨k + 1, 2, none⟩ = some (.int .i64 n) ∧ w.cell? ⟨k + 1, 3, none⟩ = some (.int .i64 m) ∧ w.cell? ⟨k + 1, 4, none⟩ = some (.int .i64 i))
theorem kept2_next {k : Nat} {o d n m i : Int} {W w1 : World} (h : Kept2 k o d n m i W) (hb : Below W.heap.size W w1) : Kept2 k o d n m i w1 := by
  obtain ⟨z, ⟨c0, c1, c2, c3, c4⟩, ⟨f0, f1, f2, f3, f4⟩, e0, e1, e2, e3, e4⟩ := h
  have hs := hb.size
  have z' : k < W.heap.size := by omega
  exact ⟨by omega, ⟨cell_later hb c0, cell_later hb c1, cell_later hb c2, cell_later hb c3, cell_later hb c4⟩,
    ⟨(hb.frozen z').trans f0, (hb.frozen z').trans f1, (hb.frozen z').trans f2, (hb.frozen z').trans f3, (hb.frozen z').trans f4⟩,
    cell_later hb e0, cell_later hb e1, cell_later hb e2, cell_later hb e3, cell_later hb e4⟩
theorem kept2_start (w : World) (o d n m i : Int) (t u : TypeId) : Kept2 w.heap.size o d n m i ((w.alloc (.cells #[.int .i64 0, .int .i64 0, .int .i64 0, .int .i64 0, .int .i64 0] t)).alloc (.cells #[.int .i64 o, .int .i64 d, .int .i64 n, .int .i64 m, .int .i64 i] u)) := by
  refine ⟨?_, ⟨?_, ?_, ?_, ?_, ?_⟩, ⟨?_, ?_, ?_, ?_, ?_⟩, ?_, ?_, ?_, ?_, ?_⟩ <;> simp [go_sem]
theorem rinsn_eq (op d n m imm : Int) (b : Bool) (w : World) (h : okI op d n m imm = b) :
    Calls Try.prog 13 #[.agg #[.int .i64 op, .int .i64 d, .int .i64 n, .int .i64 m, .int .i64 imm]] w fun e w' => e = .returned (.bool b) ∧ Below w.heap.size w w' := by
  rw [← h]; exact rinsn_any op d n m imm w

set_option maxHeartbeats 4000000 in
theorem rof_1 (x : BitVec 32) (w : World) (h : okI (opD x) (dD x) (nD x) (mD x) (immD x) = true) (h2 : wordB (opD x) (dD x) (nD x) (mD x) (immD x) = x) :
    Calls Try.prog 16 #[.int .u32 (u3 x)] w fun e w' => e = .returned (.tuple #[.agg #[.int .i64 (opD x), .int .i64 (dD x), .int .i64 (nD x), .int .i64 (mD x), .int .i64 (immD x)], .bool true]) ∧ Below w.heap.size w w' := by
  have q1 := opD_div x
  have q2 := dD_div x
  have q3 := nD_div x
  have q4 := mD_div x
  have p1 := wrap64_in (opD x) (opD_bd x).1 (by have := opD_bd x; omega)
  have p2 := wrap64_in (dD x) (dD_bd x).1 (by have := dD_bd x; omega)
  have p3 := wrap64_in (nD x) (nD_bd x).1 (by have := nD_bd x; omega)
  have p4 := wrap64_in (mD x) (mD_bd x).1 (by have := mD_bd x; omega)
  have hq := and4095 x
  have hi : immD x = if 2047 < u3 x % 4096 then u3 x % 4096 - 4096 else u3 x % 4096 := rfl
  have hr1 : 0 ≤ u3 x % 4096 := by omega
  have hr2 : u3 x % 4096 < 4096 := by omega
  generalize u3 x % 4096 = r at hq hi hr1 hr2
  generalize immD x = i at *
  have H1 := Lib.hid h
  have H2 := Lib.hid h2
  clear h h2
  by_cases hr : 2047 < r
  · rw [if_pos hr] at hi
    subst hi
    have K0 := kept2_start w (opD x) (dD x) (nD x) (mD x) (r - 4096) 26 26
    go_enter Try.func16, Try.ntmps16
    go_wp2_with fail
    refine (rinsn_eq _ _ _ _ _ _ _ H1.out).mono ?_
    rintro e w1 ⟨rfl, hb1⟩
    have K1 := kept2_next K0 hb1
    have s1 : Below w.heap.size w w1 := (((Below.refl _ _).alloc (Nat.le_refl _) _).alloc (by simp) _).trans (hb1.mono (by simp; omega))
    clear K0 hb1
    obtain ⟨z, ⟨c0, c1, c2, c3, c4⟩, ⟨f0, f1, f2, f3, f4⟩, e0, e1, e2, e3, e4⟩ := id K1
    go_wp2_with fail
    refine (rword _ _ _ _ _ _ H1.out).mono ?_
    rintro e w2 ⟨rfl, hb2⟩
    clear z c0 c1 c2 c3 c4 f0 f1 f2 f3 f4 e0 e1 e2 e3 e4
    have s2 := (below_next s1 (by have := K1.1; omega) hb2).1
    obtain ⟨z, ⟨c0, c1, c2, c3, c4⟩, ⟨f0, f1, f2, f3, f4⟩, e0, e1, e2, e3, e4⟩ := kept2_next K1 hb2
    clear hb2
    rw [H2.out]
    go_wp2
    refine bodyPost_ret (v := .tuple #[.agg #[.int .i64 (opD x), .int .i64 (dD x), .int .i64 (nD x), .int .i64 (mD x), .int .i64 (r - 4096)], .bool true]) (by simp [results, Try.results16, go_sem, c0, c1, c2, c3, c4]) rfl ⟨rfl, ?_⟩
    exact ((((s2.setCell (by simp) _).setCell (by simp) _).setCell (by simp) _).setCell (by simp) _).setCell (by simp) _
  · rw [if_neg hr] at hi
    subst hi
    have K0 := kept2_start w (opD x) (dD x) (nD x) (mD x) i 26 26
    go_enter Try.func16, Try.ntmps16
    go_wp2_with fail
    refine (rinsn_eq _ _ _ _ _ _ _ H1.out).mono ?_
    rintro e w1 ⟨rfl, hb1⟩
    have K1 := kept2_next K0 hb1
    have s1 : Below w.heap.size w w1 := (((Below.refl _ _).alloc (Nat.le_refl _) _).alloc (by simp) _).trans (hb1.mono (by simp; omega))
    clear K0 hb1
    obtain ⟨z, ⟨c0, c1, c2, c3, c4⟩, ⟨f0, f1, f2, f3, f4⟩, e0, e1, e2, e3, e4⟩ := id K1
    go_wp2_with fail
    refine (rword _ _ _ _ _ _ H1.out).mono ?_
    rintro e w2 ⟨rfl, hb2⟩
    clear z c0 c1 c2 c3 c4 f0 f1 f2 f3 f4 e0 e1 e2 e3 e4
    have s2 := (below_next s1 (by have := K1.1; omega) hb2).1
    obtain ⟨z, ⟨c0, c1, c2, c3, c4⟩, ⟨f0, f1, f2, f3, f4⟩, e0, e1, e2, e3, e4⟩ := kept2_next K1 hb2
    clear hb2
    rw [H2.out]
    go_wp2
    refine bodyPost_ret (v := .tuple #[.agg #[.int .i64 (opD x), .int .i64 (dD x), .int .i64 (nD x), .int .i64 (mD x), .int .i64 (i)], .bool true]) (by simp [results, Try.results16, go_sem, c0, c1, c2, c3, c4]) rfl ⟨rfl, ?_⟩
    exact ((((s2.setCell (by simp) _).setCell (by simp) _).setCell (by simp) _).setCell (by simp) _).setCell (by simp) _

set_option maxHeartbeats 4000000 in
theorem rof_2 (x : BitVec 32) (w : World) (h : okI (opD x) (dD x) (nD x) (mD x) (immD x) = false) :
    Calls Try.prog 16 #[.int .u32 (u3 x)] w fun e w' => e = .returned (.tuple #[.agg #[.int .i64 0, .int .i64 0, .int .i64 0, .int .i64 0, .int .i64 0], .bool false]) ∧ Below w.heap.size w w' := by
  have q1 := opD_div x
  have q2 := dD_div x
  have q3 := nD_div x
  have q4 := mD_div x
  have p1 := wrap64_in (opD x) (opD_bd x).1 (by have := opD_bd x; omega)
  have p2 := wrap64_in (dD x) (dD_bd x).1 (by have := dD_bd x; omega)
  have p3 := wrap64_in (nD x) (nD_bd x).1 (by have := nD_bd x; omega)
  have p4 := wrap64_in (mD x) (mD_bd x).1 (by have := mD_bd x; omega)
  have hq := and4095 x
  have hi : immD x = if 2047 < u3 x % 4096 then u3 x % 4096 - 4096 else u3 x % 4096 := rfl
  have hr1 : 0 ≤ u3 x % 4096 := by omega
  have hr2 : u3 x % 4096 < 4096 := by omega
  generalize u3 x % 4096 = r at hq hi hr1 hr2
  generalize immD x = i at *
  have H1 := Lib.hid h
  clear h
  by_cases hr : 2047 < r
  · rw [if_pos hr] at hi
    subst hi
    have K0 := kept2_start w (opD x) (dD x) (nD x) (mD x) (r - 4096) 26 26
    go_enter Try.func16, Try.ntmps16
    go_wp2_with fail
    refine (rinsn_eq _ _ _ _ _ _ _ H1.out).mono ?_
    rintro e w1 ⟨rfl, hb1⟩
    have K1 := kept2_next K0 hb1
    have s1 : Below w.heap.size w w1 := (((Below.refl _ _).alloc (Nat.le_refl _) _).alloc (by simp) _).trans (hb1.mono (by simp; omega))
    clear K0 hb1
    obtain ⟨z, ⟨c0, c1, c2, c3, c4⟩, ⟨f0, f1, f2, f3, f4⟩, e0, e1, e2, e3, e4⟩ := id K1
    go_wp2_with fail
    have s2 := s1
    refine bodyPost_ret (v := .tuple #[.agg #[.int .i64 0, .int .i64 0, .int .i64 0, .int .i64 0, .int .i64 0], .bool false]) (by simp [results, Try.results16, go_sem, c0, c1, c2, c3, c4]) rfl ⟨rfl, ?_⟩
    exact ((((s2.setCell (by simp) _).setCell (by simp) _).setCell (by simp) _).setCell (by simp) _).setCell (by simp) _
  · rw [if_neg hr] at hi
    subst hi
    have K0 := kept2_start w (opD x) (dD x) (nD x) (mD x) i 26 26
    go_enter Try.func16, Try.ntmps16
    go_wp2_with fail
    refine (rinsn_eq _ _ _ _ _ _ _ H1.out).mono ?_
    rintro e w1 ⟨rfl, hb1⟩
    have K1 := kept2_next K0 hb1
    have s1 : Below w.heap.size w w1 := (((Below.refl _ _).alloc (Nat.le_refl _) _).alloc (by simp) _).trans (hb1.mono (by simp; omega))
    clear K0 hb1
    obtain ⟨z, ⟨c0, c1, c2, c3, c4⟩, ⟨f0, f1, f2, f3, f4⟩, e0, e1, e2, e3, e4⟩ := id K1
    go_wp2_with fail
    have s2 := s1
    refine bodyPost_ret (v := .tuple #[.agg #[.int .i64 0, .int .i64 0, .int .i64 0, .int .i64 0, .int .i64 0], .bool false]) (by simp [results, Try.results16, go_sem, c0, c1, c2, c3, c4]) rfl ⟨rfl, ?_⟩
    exact ((((s2.setCell (by simp) _).setCell (by simp) _).setCell (by simp) _).setCell (by simp) _).setCell (by simp) _

set_option maxHeartbeats 4000000 in
theorem rof_3 (x : BitVec 32) (w : World) (h : okI (opD x) (dD x) (nD x) (mD x) (immD x) = true) (h2 : (wordB (opD x) (dD x) (nD x) (mD x) (immD x) == x) = false) :
    Calls Try.prog 16 #[.int .u32 (u3 x)] w fun e w' => e = .returned (.tuple #[.agg #[.int .i64 0, .int .i64 0, .int .i64 0, .int .i64 0, .int .i64 0], .bool false]) ∧ Below w.heap.size w w' := by
  have q1 := opD_div x
  have q2 := dD_div x
  have q3 := nD_div x
  have q4 := mD_div x
  have p1 := wrap64_in (opD x) (opD_bd x).1 (by have := opD_bd x; omega)
  have p2 := wrap64_in (dD x) (dD_bd x).1 (by have := dD_bd x; omega)
  have p3 := wrap64_in (nD x) (nD_bd x).1 (by have := nD_bd x; omega)
  have p4 := wrap64_in (mD x) (mD_bd x).1 (by have := mD_bd x; omega)
  have hq := and4095 x
  have hi : immD x = if 2047 < u3 x % 4096 then u3 x % 4096 - 4096 else u3 x % 4096 := rfl
  have hr1 : 0 ≤ u3 x % 4096 := by omega
  have hr2 : u3 x % 4096 < 4096 := by omega
  generalize u3 x % 4096 = r at hq hi hr1 hr2
  generalize immD x = i at *
  have H1 := Lib.hid h
  have H3 := Lib.hid (show (wordB (opD x) (dD x) (nD x) (mD x) i != x) = true by simp only [bne, h2]; rfl)
  clear h h2
  by_cases hr : 2047 < r
  · rw [if_pos hr] at hi
    subst hi
    have K0 := kept2_start w (opD x) (dD x) (nD x) (mD x) (r - 4096) 26 26
    go_enter Try.func16, Try.ntmps16
    go_wp2_with fail
    refine (rinsn_eq _ _ _ _ _ _ _ H1.out).mono ?_
    rintro e w1 ⟨rfl, hb1⟩
    have K1 := kept2_next K0 hb1
    have s1 : Below w.heap.size w w1 := (((Below.refl _ _).alloc (Nat.le_refl _) _).alloc (by simp) _).trans (hb1.mono (by simp; omega))
    clear K0 hb1
    obtain ⟨z, ⟨c0, c1, c2, c3, c4⟩, ⟨f0, f1, f2, f3, f4⟩, e0, e1, e2, e3, e4⟩ := id K1
    go_wp2_with fail
    refine (rword _ _ _ _ _ _ H1.out).mono ?_
    rintro e w2 ⟨rfl, hb2⟩
    clear z c0 c1 c2 c3 c4 f0 f1 f2 f3 f4 e0 e1 e2 e3 e4
    have s2 := (below_next s1 (by have := K1.1; omega) hb2).1
    obtain ⟨z, ⟨c0, c1, c2, c3, c4⟩, ⟨f0, f1, f2, f3, f4⟩, e0, e1, e2, e3, e4⟩ := kept2_next K1 hb2
    clear hb2
    have h3 := H3.out
    go_wp2
    refine bodyPost_ret (v := .tuple #[.agg #[.int .i64 0, .int .i64 0, .int .i64 0, .int .i64 0, .int .i64 0], .bool false]) (by simp [results, Try.results16, go_sem, c0, c1, c2, c3, c4]) rfl ⟨rfl, ?_⟩
    exact ((((s2.setCell (by simp) _).setCell (by simp) _).setCell (by simp) _).setCell (by simp) _).setCell (by simp) _
  · rw [if_neg hr] at hi
    subst hi
    have K0 := kept2_start w (opD x) (dD x) (nD x) (mD x) i 26 26
    go_enter Try.func16, Try.ntmps16
    go_wp2_with fail
    refine (rinsn_eq _ _ _ _ _ _ _ H1.out).mono ?_
    rintro e w1 ⟨rfl, hb1⟩
    have K1 := kept2_next K0 hb1
    have s1 : Below w.heap.size w w1 := (((Below.refl _ _).alloc (Nat.le_refl _) _).alloc (by simp) _).trans (hb1.mono (by simp; omega))
    clear K0 hb1
    obtain ⟨z, ⟨c0, c1, c2, c3, c4⟩, ⟨f0, f1, f2, f3, f4⟩, e0, e1, e2, e3, e4⟩ := id K1
    go_wp2_with fail
    refine (rword _ _ _ _ _ _ H1.out).mono ?_
    rintro e w2 ⟨rfl, hb2⟩
    clear z c0 c1 c2 c3 c4 f0 f1 f2 f3 f4 e0 e1 e2 e3 e4
    have s2 := (below_next s1 (by have := K1.1; omega) hb2).1
    obtain ⟨z, ⟨c0, c1, c2, c3, c4⟩, ⟨f0, f1, f2, f3, f4⟩, e0, e1, e2, e3, e4⟩ := kept2_next K1 hb2
    clear hb2
    have h3 := H3.out
    go_wp2
    refine bodyPost_ret (v := .tuple #[.agg #[.int .i64 0, .int .i64 0, .int .i64 0, .int .i64 0, .int .i64 0], .bool false]) (by simp [results, Try.results16, go_sem, c0, c1, c2, c3, c4]) rfl ⟨rfl, ?_⟩
    exact ((((s2.setCell (by simp) _).setCell (by simp) _).setCell (by simp) _).setCell (by simp) _).setCell (by simp) _

theorem rof_yes (x : BitVec 32) (w : World) (h : okOf x = true) :
    Calls Try.prog 16 #[.int .u32 (u3 x)] w fun e w' => e = .returned (.tuple #[.agg #[.int .i64 (opD x), .int .i64 (dD x), .int .i64 (nD x), .int .i64 (mD x), .int .i64 (immD x)], .bool true]) ∧ Below w.heap.size w w' := by
  unfold okOf at h
  rw [Bool.and_eq_true, beq_iff_eq] at h
  exact rof_1 x w h.1 h.2
theorem rof_no (x : BitVec 32) (w : World) (h : okOf x = false) :
    Calls Try.prog 16 #[.int .u32 (u3 x)] w fun e w' => e = .returned (.tuple #[.agg #[.int .i64 0, .int .i64 0, .int .i64 0, .int .i64 0, .int .i64 0], .bool false]) ∧ Below w.heap.size w w' := by
  rcases hk : okI (opD x) (dD x) (nD x) (mD x) (immD x) with _ | _
  · exact rof_2 x w hk
  · unfold okOf at h
    rw [hk, Bool.true_and] at h
    exact rof_3 x w hk h
end Go.Proofs.Ytmbgcfgmoepgbaa
