/- The contracts of the reference's Next, Get; and of One. -/
import Derived.Test.YtfialajiaphciaaRg6
import Derived.Test.YtfialajiaphciaaRr
namespace Go.Proofs.Ytfialajiaphciaa
open Go.RowKit
theorem uv_wi (n : Int) : IntKind.u64.wrap (IntKind.i64.wrap n) = uv (BitVec.ofInt 64 n) := by
  rw [← uv_ofInt, IntKind.wrap_u64, IntKind.wrap_u64, IntKind.wrap_i64]; omega
theorem uv_wi' (n : Int) : IntKind.u64.wrap (wrap64 n) = uv (BitVec.ofInt 64 n) := by
  rw [← uv_ofInt, IntKind.wrap_u64, IntKind.wrap_u64]; unfold wrap64; omega
attribute [local go_sem] uv_and uv_or uv_xor uv_andNot uv_shr uv_shl uv_add uv_sub uv_neg uv_beq uv_beq0 uv_beq1 uv_bne uv_bne0 u64_signed uv_not sv_i64 sv_shr uv_sv ones_shr sv_w64 uv_and1 uv_mul4 uv_4mul uv_add4 uv_wi uv_wi'

set_option maxRecDepth 100000 in
set_option maxHeartbeats 4000000 in
theorem rrnext (r : RG) (p : Option Addr) (l c : Nat) (ns : List Int) (w : World) (hl : ns.length = l) (hm : l ≤ 300) (hns : IntsL w p ns) :
    Calls Try.prog 37 #[.agg (rgA r), .slice p l c] w fun e w' => e = .returned (.agg (rgA { r with pc := nextV r.pc ns })) ∧ Below w.heap.size w w' := by
  obtain ⟨fb, fo, hp, hf⟩ := hns
  subst hl
  have HP := Lib.hid hp
  have HF := Lib.hid hf
  clear hp hf
  unfold rgA
  go_enter Try.func37, Try.ntmps37
  go_wp2
  go_loopw [5] (fun i wr => ∃ k : Nat, k ≤ ns.length ∧ i = .int .i64 k ∧ (Below w.heap.size w wr ∧ w.heap.size ≤ wr.heap.size) ∧ Blk wr w.heap.size (rgA { r with pc := nextV r.pc (ns.take k) }) ∧ Blk wr (w.heap.size + 1) (rgA zeroRG)) (fun i _ => ns.length - (intOf i).toNat)
  case atStart => exact ⟨0, Nat.zero_le _, rfl, ⟨two_new, by simp; omega⟩, (Blk.new w _ _).alloc _, Blk.new_at _ _ _ _ (by simp)⟩
  case round =>
    obtain ⟨k, hk, rfl, ⟨hB, hz⟩, hR, hA⟩ := hrel
    by_cases hlt : k < ns.length
    · obtain ⟨n, hkn⟩ : ∃ f, ns[k]? = some f := ⟨_, List.getElem?_eq_getElem hlt⟩
      obtain rfl := HP.out (by omega)
      have e0 := HF.out k n hkn
      have e1 := (hB.cell (p := ⟨fb, fo + k, none⟩) (World.block_lt_of_cell? _ _ e0)).trans e0
      have k0 : (0 : Int) ≤ (k : Int) := Int.natCast_nonneg _
      have k1 : (k : Int) < (ns.length : Int) := by omega
      have i1 := uv_ofInt n
      have c8 : wr.cell? ⟨w.heap.size, 8, none⟩ = some (.int .u64 (uv (nextV r.pc (ns.take k)))) := hR.cell 8
      have f8 := hR.frozen 8
      have HK := Lib.hid hkn
      have HR := Lib.hid hR
      have HA := Lib.hid hA
      clear e0 hkn hR hA
      go_wp2
      go_region
      go_wp2
      go_roundw
      case rel =>
        refine ⟨k + 1, by omega, by go_num, ⟨(hB.setCell (Nat.le_refl _) _).drew, by simpa using hz⟩, ?_, (HA.out.set_ne (by omega) _ _).drew⟩
        rw [next_step HK.out]
        exact (HR.out.set 8 _).drew
      case measure => simp [intOf]; omega
    · obtain rfl : k = ns.length := by omega
      rw [List.take_length] at hR
      have HR := Lib.hid hR
      have HA := Lib.hid hA
      clear hR hA
      obtain ⟨t1, g1⟩ := HR.out
      obtain ⟨t2, g2⟩ := HA.out
      have G1 := Lib.hid g1
      have G2 := Lib.hid g2
      clear g1 g2
      go_wp2_with (first
        | (refine wpList_load_row rfl 60 _ rfl w.heap.size rfl t1 _ (0, 0) _ G1.out Try.underlying60 rfl (by kernel_rfl) ?_)
        | (refine wpList_store_row rfl 60 _ _ rfl (w.heap.size + 1) (rgA { r with pc := nextV r.pc ns }) rfl rfl t2 _ G2.out (by kernel_rfl) rfl (rg_one _) ?_))
      refine bodyPost_ret (v := .agg (rgA { r with pc := nextV r.pc ns })) (results_cell_row Try.results37 _ _ (w.heap.size + 1) t2 (rgA { r with pc := nextV r.pc ns }) (0, 0) _ rfl (setRow_heap _ _ _ _ _ _ G2.out) Try.underlying60 rfl (by kernel_rfl)) rfl ⟨rfl, below_setRow hB (by omega) _⟩
theorem uv_andNot1 (x : BitVec 64) : bits .andNot .u64 (uv x) 1 = uv (x &&& ~~~1#64) := uv_andNot x 1#64
attribute [local go_sem] uv_andNot1
theorem get01 (x : BitVec 64) : (getB x 0 1 == 1#64) = onD x := by
  unfold getB onD
  have e : lowB 1 = 1#64 := by decide +kernel
  rw [e]
  simp
/-- the root that registers tell -/
def oneOk (r : RG) : Bool := okRof (r.s0 &&& 18446744073709551614#64)
def oneA (r : RG) : Array Value := #[.bool (onD r.s1), .int .i64 (if oneOk r then partI (r.s0 &&& 18446744073709551614#64) 12 12 else 0), .int .i64 (if oneOk r then partI (r.s0 &&& 18446744073709551614#64) 48 4 else 0)]
set_option maxHeartbeats 4000000 in
theorem gone (r : RG) (w : World) :
    Calls Try.prog 30 #[.agg (rgA r)] w fun e w' => e = .returned (.agg (oneA r)) ∧ Below w.heap.size w w' := by
  rcases hK : oneOk r with _ | _
  · have hv : oneA r = #[.bool (onD r.s1), .int .i64 0, .int .i64 0] := by unfold oneA; rw [hK]; rfl
    have HV := Lib.hid hv
    have HK := Lib.hid hK
    have o1 : (r.s1 &&& 1#64 == 1#64) = onD r.s1 := rfl
    clear hv hK
    unfold rgA
    go_enter Try.func30, Try.ntmps30
    go_wp2_with fail
    refine (rof_no _ _ HK.out).mono ?_
    rintro e w1 ⟨rfl, hb1⟩
    have R1 := ((Blk.new w (rgA r) _).alloc _).next hb1
    have A1 := (Blk.new_at (w.alloc (.cells (rgA r) 60)) #[.bool false, .int .i64 0, .int .i64 0] 28 (w.heap.size + 1) (by simp)).next hb1
    have c10 : w1.cell? ⟨w.heap.size, 10, none⟩ = some (.int .u64 (uv r.s1)) := R1.cell 10
    have a0 := A1.cell 0
    have a1 := A1.cell 1
    have a2 := A1.cell 2
    have f0 := A1.frozen 0
    have f1 := A1.frozen 1
    have f2 := A1.frozen 2
    have bz := A1.lt
    have bz0 := R1.lt
    have s1 : Below w.heap.size w w1 := two_new.trans (hb1.mono (by simp; omega))
    clear R1 A1 hb1
    go_wp2
    refine bodyPost_ret (v := .agg #[.bool (onD r.s1), .int .i64 0, .int .i64 0]) (by simp [results, Try.results30, go_sem, bz, a0, a1, a2]) rfl ⟨by rw [HV.out], ?_⟩
    exact (((s1.setCell (by simp) _).setCell (by simp) _).setCell (by simp) _).alloc (by simp; omega) _
  · have hv : oneA r = #[.bool (onD r.s1), .int .i64 (partI (r.s0 &&& 18446744073709551614#64) 12 12), .int .i64 (partI (r.s0 &&& 18446744073709551614#64) 48 4)] := by unfold oneA; rw [hK]; rfl
    have HV := Lib.hid hv
    have HK := Lib.hid hK
    have o1 : (r.s1 &&& 1#64 == 1#64) = onD r.s1 := rfl
    clear hv hK
    unfold rgA
    go_enter Try.func30, Try.ntmps30
    go_wp2_with fail
    refine (rof_yes _ _ HK.out).mono ?_
    rintro e w1 ⟨rfl, hb1⟩
    have R1 := ((Blk.new w (rgA r) _).alloc _).next hb1
    have A1 := (Blk.new_at (w.alloc (.cells (rgA r) 60)) #[.bool false, .int .i64 0, .int .i64 0] 28 (w.heap.size + 1) (by simp)).next hb1
    have c10 : w1.cell? ⟨w.heap.size, 10, none⟩ = some (.int .u64 (uv r.s1)) := R1.cell 10
    have a0 := A1.cell 0
    have a1 := A1.cell 1
    have a2 := A1.cell 2
    have f0 := A1.frozen 0
    have f1 := A1.frozen 1
    have f2 := A1.frozen 2
    have bz := A1.lt
    have bz0 := R1.lt
    have s1 : Below w.heap.size w w1 := two_new.trans (hb1.mono (by simp; omega))
    clear R1 A1 hb1
    go_wp2
    refine bodyPost_ret (v := .agg #[.bool (onD r.s1), .int .i64 (partI (r.s0 &&& 18446744073709551614#64) 12 12), .int .i64 (partI (r.s0 &&& 18446744073709551614#64) 48 4)]) (by simp [results, Try.results30, go_sem, bz, a0, a1, a2]) rfl ⟨by rw [HV.out], ?_⟩
    exact (((s1.setCell (by simp) _).setCell (by simp) _).setCell (by simp) _).alloc (by simp; omega) _
set_option maxHeartbeats 4000000 in
theorem rrone (r : RG) (w : World) :
    Calls Try.prog 31 #[.agg (rgA r)] w fun e w' => e = .returned (.agg (oneA r)) ∧ Below w.heap.size w w' := by
  rcases hK : oneOk r with _ | _
  · have hv : oneA r = #[.bool (onD r.s1), .int .i64 0, .int .i64 0] := by unfold oneA; rw [hK]; rfl
    have HV := Lib.hid hv
    have HK := Lib.hid hK
    have o1 : (getB r.s1 0 1 == 1#64) = onD r.s1 := get01 r.s1
    clear hv hK
    unfold rgA
    go_enter Try.func31, Try.ntmps31
    go_wp2_with fail
    refine (rrof_no _ _ HK.out).mono ?_
    rintro e w1 ⟨rfl, hb1⟩
    have R1 := ((Blk.new w (rgA r) _).alloc _).next hb1
    have A1 := (Blk.new_at (w.alloc (.cells (rgA r) 60)) #[.bool false, .int .i64 0, .int .i64 0] 28 (w.heap.size + 1) (by simp)).next hb1
    have c10 : w1.cell? ⟨w.heap.size, 10, none⟩ = some (.int .u64 (uv r.s1)) := R1.cell 10
    have a0 := A1.cell 0
    have a1 := A1.cell 1
    have a2 := A1.cell 2
    have f0 := A1.frozen 0
    have f1 := A1.frozen 1
    have f2 := A1.frozen 2
    have bz := A1.lt
    have bz0 := R1.lt
    have s1 : Below w.heap.size w w1 := two_new.trans (hb1.mono (by simp; omega))
    clear R1 hb1 a0 a1 a2 f0 f1 f2
    go_wp2_with fail
    refine (rget _ _ _ _ (by decide)).mono ?_
    rintro e w2 ⟨rfl, hb2⟩
    have A2 := (A1.alloc _).next hb2
    have X2 : Blk w2 w1.heap.size #[.bool false, .int .i64 0, .int .i64 0] := (Blk.new w1 _ _).next hb2
    have a0 := A2.cell 0
    have a1 := A2.cell 1
    have a2 := A2.cell 2
    have f0 := A2.frozen 0
    have f1 := A2.frozen 1
    have f2 := A2.frozen 2
    have x0 := X2.cell 0
    have x1 := X2.cell 1
    have x2 := X2.cell 2
    have g0 := X2.frozen 0
    have hne : ¬ w1.heap.size = w.heap.size + 1 := by omega
    have s2 := (below_new s1 (by omega) hb2).1
    clear A1 A2 X2 hb2 s1
    go_wp2
    refine bodyPost_ret (v := .agg #[.bool (onD r.s1), .int .i64 0, .int .i64 0]) (by simp [results, Try.results31, go_sem, a0, a1, a2]) rfl ⟨by rw [HV.out], ?_⟩
    exact (((s2.setCell (by simp; omega) _).setCell (by simp) _).setCell (by simp) _).setCell (by simp) _
  · have hv : oneA r = #[.bool (onD r.s1), .int .i64 (partI (r.s0 &&& 18446744073709551614#64) 12 12), .int .i64 (partI (r.s0 &&& 18446744073709551614#64) 48 4)] := by unfold oneA; rw [hK]; rfl
    have HV := Lib.hid hv
    have HK := Lib.hid hK
    have o1 : (getB r.s1 0 1 == 1#64) = onD r.s1 := get01 r.s1
    clear hv hK
    unfold rgA
    go_enter Try.func31, Try.ntmps31
    go_wp2_with fail
    refine (rrof_yes _ _ HK.out).mono ?_
    rintro e w1 ⟨rfl, hb1⟩
    have R1 := ((Blk.new w (rgA r) _).alloc _).next hb1
    have A1 := (Blk.new_at (w.alloc (.cells (rgA r) 60)) #[.bool false, .int .i64 0, .int .i64 0] 28 (w.heap.size + 1) (by simp)).next hb1
    have c10 : w1.cell? ⟨w.heap.size, 10, none⟩ = some (.int .u64 (uv r.s1)) := R1.cell 10
    have a0 := A1.cell 0
    have a1 := A1.cell 1
    have a2 := A1.cell 2
    have f0 := A1.frozen 0
    have f1 := A1.frozen 1
    have f2 := A1.frozen 2
    have bz := A1.lt
    have bz0 := R1.lt
    have s1 : Below w.heap.size w w1 := two_new.trans (hb1.mono (by simp; omega))
    clear R1 hb1 a0 a1 a2 f0 f1 f2
    go_wp2_with fail
    refine (rget _ _ _ _ (by decide)).mono ?_
    rintro e w2 ⟨rfl, hb2⟩
    have A2 := (A1.alloc _).next hb2
    have X2 : Blk w2 w1.heap.size #[.bool (onD (r.s0 &&& 18446744073709551614#64)), .int .i64 (partI (r.s0 &&& 18446744073709551614#64) 12 12), .int .i64 (partI (r.s0 &&& 18446744073709551614#64) 48 4)] := (Blk.new w1 _ _).next hb2
    have a0 := A2.cell 0
    have a1 := A2.cell 1
    have a2 := A2.cell 2
    have f0 := A2.frozen 0
    have f1 := A2.frozen 1
    have f2 := A2.frozen 2
    have x0 := X2.cell 0
    have x1 := X2.cell 1
    have x2 := X2.cell 2
    have g0 := X2.frozen 0
    have hne : ¬ w1.heap.size = w.heap.size + 1 := by omega
    have s2 := (below_new s1 (by omega) hb2).1
    clear A1 A2 X2 hb2 s1
    go_wp2
    refine bodyPost_ret (v := .agg #[.bool (onD r.s1), .int .i64 (partI (r.s0 &&& 18446744073709551614#64) 12 12), .int .i64 (partI (r.s0 &&& 18446744073709551614#64) 48 4)]) (by simp [results, Try.results31, go_sem, a0, a1, a2]) rfl ⟨by rw [HV.out], ?_⟩
    exact (((s2.setCell (by simp; omega) _).setCell (by simp) _).setCell (by simp) _).setCell (by simp) _
end Go.Proofs.Ytfialajiaphciaa
