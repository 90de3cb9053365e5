/- The contracts of package word: joined, Join, Free. -/
import Derived.Test.YtfialajiaphciaaWa
import Derived.Test.YtfialajiaphciaaJoin
import Derived.Test.YtfialajiaphciaaH
namespace Go.Proofs.Ytfialajiaphciaa
open Go.RowKit
attribute [local go_sem] uv_and uv_or uv_xor uv_andNot uv_shr uv_shl uv_add uv_sub uv_neg uv_beq uv_beq0 uv_beq1 uv_bne0 u64_signed uv_not sv_i64 sv_shr uv_sv ones_shr

/-- the fields that lie in a row of memory -/
def FieldsL (w : World) (p : Option Addr) (fs : List (Int × Int × BitVec 64)) : Prop :=
  ∃ fb fo, (0 < fs.length → p = some ⟨fb, fo, none⟩) ∧ ∀ j a n x, fs[j]? = some (a, n, x) →
    w.cell? ⟨fb, fo + j * 3, none⟩ = some (.int .i64 a) ∧ w.cell? ⟨fb, fo + j * 3 + 1, none⟩ = some (.int .i64 n) ∧ w.cell? ⟨fb, fo + j * 3 + 2, none⟩ = some (.int .u64 (uv x))

set_option maxRecDepth 100000 in
set_option maxHeartbeats 4000000 in
theorem joined_any (p : Option Addr) (l c : Nat) (fs : List (Int × Int × BitVec 64)) (W T : BitVec 64) (E : Int) (w : World) (hl : fs.length = l) (hm : l ≤ maxLen) (hfs : FieldsL w p fs) (hj : joinF fs = (W, T, E)) :
    Calls Try.prog 50 #[.slice p l c] w fun e w' => e = .returned (.tuple #[.int .u64 (uv W), .int .u64 (uv T), .int .i64 E]) ∧ Below w.heap.size w w' := by
  obtain ⟨fb, fo, hp, hf⟩ := hfs
  unfold maxLen at hm
  subst hl
  have HP := Lib.hid hp
  have HF := Lib.hid hf
  have HJ := Lib.hid hj
  clear hp hf hj
  go_enter Try.func50, Try.ntmps50
  go_wp2
  go_loopw [2, 3, 12] (fun v t i wr => ∃ k : Nat, k ≤ fs.length ∧ i = .int .i64 k ∧ v = .int .u64 0 ∧ t = .int .u64 0 ∧ (Below w.heap.size w wr ∧ w.heap.size ≤ wr.heap.size) ∧ Hid ((fs.take k).all mayF = true)) (fun _ _ i _ => fs.length - (intOf i).toNat)
  case atStart => exact ⟨0, Nat.zero_le _, rfl, rfl, rfl, ⟨Below.refl _ _, Nat.le_refl _⟩, Lib.hid (by simp)⟩
  case round =>
    obtain ⟨k, hk, rfl, rfl, rfl, ⟨hB, hz⟩, hall⟩ := hrel
    by_cases hlt : k < fs.length
    · obtain ⟨⟨a, n, x⟩, hkx⟩ : ∃ f, fs[k]? = some f := ⟨_, List.getElem?_eq_getElem hlt⟩
      obtain ⟨e0, e1, e2⟩ := HF.out k a n x hkx
      obtain rfl := HP.out (by omega)
      have HK := Lib.hid hkx
      have hbl := World.block_lt_of_cell? _ _ e0
      have d0 := (hB.cell (p := ⟨fb, fo + k * 3, none⟩) hbl).trans e0
      have d1 := (hB.cell (p := ⟨fb, fo + k * 3 + 1, none⟩) hbl).trans e1
      have d2 := (hB.cell (p := ⟨fb, fo + k * 3 + 2, none⟩) hbl).trans e2
      clear e0 e1 e2 hkx
      rcases Bool.eq_false_or_eq_true (mayB a n x) with hA | hA
      · have HA := Lib.hid hA
        clear hA
        go_wp2_with (go_at_call 53; refine (may_yes _ _ _ _ HA.out).mono ?_; rintro e w1 ⟨rfl, hb1⟩; obtain ⟨hB1, hz1⟩ := below_new hB hz hb1; clear hb1 d0 d1 d2 hB hz)
        go_roundw
        case rel => exact ⟨k + 1, by omega, by go_num, rfl, rfl, ⟨hB1, hz1⟩, Lib.hid (all_step HK.out hall.out HA.out)⟩
        case measure => simp [intOf]; omega
      · have HA := Lib.hid hA
        clear hA
        go_wp2_with (go_at_call 53; refine (may_no _ _ _ _ HA.out).mono ?_; rintro e w1 ⟨rfl, hb1⟩; obtain ⟨hB1, hz1⟩ := below_new hB hz hb1; clear hb1 d0 d1 d2 hB hz)
        have hj := HJ.out
        rw [join_bad HK.out HA.out] at hj
        simp only [Prod.mk.injEq] at hj
        obtain ⟨rfl, rfl, rfl⟩ := hj
        go_ret3
        exact ⟨rfl, hB1⟩
    · have hall' : fs.all mayF = true := by have := hall.out; rwa [List.take_of_length_le (by omega)] at this
      have HALL := Lib.hid hall'
      clear hall hall'
      go_wp2
      clear hk hlt
      go_loopw [2, 3, 23] (fun v t i wr => ∃ (k : Nat) (W0 T0 : BitVec 64), k ≤ fs.length ∧ i = .int .i64 k ∧ v = .int .u64 (uv W0) ∧ t = .int .u64 (uv T0) ∧ (Below w.heap.size w wr ∧ w.heap.size ≤ wr.heap.size) ∧ Hid (foldF (fs.take k) = some (W0, T0))) (fun _ _ i _ => fs.length - (intOf i).toNat)
      case atStart => exact ⟨0, 0#64, 0#64, Nat.zero_le _, rfl, rfl, rfl, ⟨hB, hz⟩, Lib.hid (by simp [foldF])⟩
      case round =>
        clear hB hz
        obtain ⟨k, W0, T0, hk, rfl, rfl, rfl, ⟨hB, hz⟩, hfold⟩ := hrel
        by_cases hlt : k < fs.length
        · obtain ⟨⟨a, n, x⟩, hkx⟩ : ∃ f, fs[k]? = some f := ⟨_, List.getElem?_eq_getElem hlt⟩
          obtain ⟨e0, e1, e2⟩ := HF.out k a n x hkx
          obtain rfl := HP.out (by omega)
          have hmay : mayB a n x = true := by
            have h1 := HALL.out
            rw [List.all_eq_true] at h1
            exact h1 _ (List.mem_of_getElem? hkx)
          have hfit : fitsB a n = true := by unfold mayB at hmay; rw [Bool.and_eq_true] at hmay; exact hmay.1
          obtain ⟨h1, h2, h3, h4⟩ := fitsB_yes hfit
          have HK := Lib.hid hkx
          have hbl := World.block_lt_of_cell? _ _ e0
          have d0 := (hB.cell (p := ⟨fb, fo + k * 3, none⟩) hbl).trans e0
          have d1 := (hB.cell (p := ⟨fb, fo + k * 3 + 1, none⟩) hbl).trans e1
          have d2 := (hB.cell (p := ⟨fb, fo + k * 3 + 2, none⟩) hbl).trans e2
          clear e0 e1 e2 hkx hmay hfit
          rcases Bool.eq_false_or_eq_true (T0 &&& maskB a n == 0#64) with hA | hA
          · have hA' : (T0 &&& maskB a n != 0#64) = false := by simp only [bne, hA]; rfl
            have HA := Lib.hid hA
            clear hA
            go_wp2_with (go_at_call 55; refine (mask_any _ _ _ _ (by omega) (by omega) (by omega) (by omega)).mono ?_; rintro e w1 ⟨rfl, hb1⟩; obtain ⟨c0, c1, c2, hz1⟩ := cell3 (k := wr.heap.size + 1) hb1 rfl (by simp))
            obtain ⟨hB1, hz1'⟩ : Below w.heap.size w w1 ∧ w.heap.size ≤ w1.heap.size := ⟨((hB.alloc hz _).alloc (by simp; omega) _).trans (hb1.mono (by simp; omega)), by omega⟩
            clear hb1 d0 d1 d2 hB hz
            go_region_held3 (fun w' => w'.cell? ⟨wr.heap.size + 1, 0, none⟩ = some (.int .i64 a) ∧ w'.cell? ⟨wr.heap.size + 1, 1, none⟩ = some (.int .i64 n) ∧ w'.cell? ⟨wr.heap.size + 1, 2, none⟩ = some (.int .u64 (uv x)))
              (first | go_keep | exact held3 hb2 (by assumption))
              (first | (go_at_call 55; refine (mask_any _ _ _ _ (by omega) (by omega) (by omega) (by omega)).mono ?_; rintro e w2 ⟨rfl, hb2⟩))
            go_wp2
            go_roundw
            case rel => exact ⟨k + 1, _, _, by omega, by go_num, rfl, rfl, ⟨hB1.drew.trans (hb2.mono (by simp; omega)), by have := hb2.size; simp at this; omega⟩, Lib.hid (fold_step HK.out hfold.out HA.out)⟩
            case measure => simp [intOf]; omega
          · have hA' : (T0 &&& maskB a n != 0#64) = true := by simp only [bne, hA]; rfl
            have HA := Lib.hid hA
            clear hA
            go_wp2_with (go_at_call 55; refine (mask_any _ _ _ _ (by omega) (by omega) (by omega) (by omega)).mono ?_; rintro e w1 ⟨rfl, hb1⟩)
            have hj := HJ.out
            rw [join_there HALL.out HK.out hfold.out HA.out] at hj
            simp only [Prod.mk.injEq] at hj
            obtain ⟨rfl, rfl, rfl⟩ := hj
            go_ret3
            exact ⟨rfl, ((hB.alloc hz _).alloc (by simp; omega) _).trans (hb1.mono (by simp; omega))⟩
        · have hj := HJ.out
          have hfo : foldF fs = some (W0, T0) := by have := hfold.out; rwa [List.take_of_length_le (by omega)] at this
          rw [join_ok HALL.out hfo] at hj
          simp only [Prod.mk.injEq] at hj
          obtain ⟨rfl, rfl, rfl⟩ := hj
          clear hfo
          go_wp2
          go_ret3
          exact ⟨rfl, hB⟩

set_option maxHeartbeats 400000 in
theorem join_any (p : Option Addr) (l c : Nat) (fs : List (Int × Int × BitVec 64)) (W T : BitVec 64) (E : Int) (w : World) (hl : fs.length = l) (hm : l ≤ maxLen) (hfs : FieldsL w p fs) (hj : joinF fs = (W, T, E)) :
    Calls Try.prog 39 #[.slice p l c] w fun e w' => e = .returned (.tuple #[.int .u64 (uv W), .int .i64 E]) ∧ Below w.heap.size w w' := by
  have H := joined_any p l c fs W T E w hl hm hfs hj
  have HH := Lib.hid H
  clear H hl hm hfs hj
  go_enter Try.func39, Try.ntmps39
  go_wp2_with (go_at_call 50; refine HH.out.mono ?_; rintro e w1 ⟨rfl, hb1⟩)
  go_ret2
  exact ⟨rfl, hb1⟩
end Go.Proofs.Ytfialajiaphciaa
