/- RegsBack: the walk. -/
import Derived.Test.YtfialajiaphciaaL13d
namespace Go.Proofs.Ytfialajiaphciaa.law13
open Go.RowKit
attribute [local go_sem] uv_and uv_or uv_xor uv_andNot uv_shr uv_shl uv_add uv_sub uv_neg uv_beq uv_beq0 uv_beq1 uv_bne uv_bne0 u64_signed uv_not sv_i64 sv_shr uv_sv ones_shr sv_w64 uv_and1
attribute [local go_sem ↓] ldV_fold ldW_fold
attribute [local go_sem] ldV_at ldW_at

set_option maxRecDepth 100000 in
set_option maxHeartbeats 16000000 in
theorem back_walk (pa : Option Addr) (b off len cap : Nat) (w : World) (hp : 0 < len → pa = some ⟨b, off, none⟩)
    (hc : ∀ i, i < len → ∃ r K V p l c, AskAt w b (off + i * 18) r K V p l c ∧ (∃ ns, ns.length = l ∧ IntsL w p ns) ∧ l ≤ maxLen) :
    Calls Try.prog 8 #[.slice pa len cap] w fun e w' => e = .returned (.bool true) ∧ Below w.heap.size w w' := by
  have HP := Lib.hid hp
  have HC := Lib.hid hc
  clear hp hc
  go_enter Try.func8, Try.ntmps8
  go_wp2
  go_loopw [3] (fun i wr => ∃ k : Nat, k ≤ len ∧ k ≤ 15 ∧ i = .int .i64 k ∧ Below w.heap.size w wr ∧ w.heap.size ≤ wr.heap.size) (fun i _ => 15 - (intOf i).toNat)
  case atStart => exact ⟨0, Nat.zero_le _, Nat.zero_le _, rfl, Below.refl _ _, Nat.le_refl _⟩
  case round =>
    rename World => W0
    obtain ⟨q, hq, hq15, rfl, hB, hz⟩ := hrel
    have hp := HP.out
    have hc := HC.out
    clear HP HC
    by_cases hlt : q < len
    · by_cases hlt15 : q < 15
      · obtain ⟨r, K, V, p, l, c, hA, -, -⟩ := hc q hlt
        obtain rfl := hp (by omega)
        have HA := Lib.hid ((ask_row hA).next hB)
        have k0 : (0 : Int) ≤ (q : Int) := Int.natCast_nonneg _
        have k1 : (q : Int) < (len : Int) := by omega
        clear hc hp hA
        have P1 := Blk.new W0 (askA r K V p l c) 63
        have hP1 := Lib.hid P1
        have HB := Lib.hid hB
        obtain ⟨_, hL, c15, c16, _⟩ := reg_all P1
        have b1 : Below W0.heap.size W0 (W0.alloc (.cells (askA r K V p l c) 63)) ∧ W0.heap.size ≤ (W0.alloc (.cells (askA r K V p l c) 63)).heap.size := ⟨(Below.refl _ _).alloc (Nat.le_refl _) _, by simp⟩
        clear P1 hB
        go_wp2_with (first
          | (refine wpList_load_at rfl 63 _ rfl b (off + q * 18) rfl (askA r K V p l c) _ HA.out Try.underlying63 rfl (by kernel_rfl) ?_)
          | (refine wpList_store_new rfl 63 _ _ rfl (askA r K V p l c) rfl rfl 63 _ (by kernel_rfl) rfl (ask_one _ _ _ _ _ _) ?_))
        refine (trap_any r V 9#64 _).mono ?_
        rintro e w1 ⟨rfl, hb1⟩
        have hP2 := Lib.hid (hP1.out.next hb1)
        have b2 := below_next b1.1 b1.2 hb1
        clear hb1 hP1 b1 hL c15 c16 HA
        go_wp2_with fail
        refine (back_any (trapV r V 9#64) _).mono ?_
        rintro e w2 ⟨rfl, hb2⟩
        have hP3 := hP2.out.next hb2
        have b3 := below_next b2.1 b2.2 hb2
        clear hb2 hP2 b2
        have hP4 := Lib.hid (hP3.alloc (.cells (rgA (backV (trapV r V 9#64))) 60))
        have b4 : Below W0.heap.size W0 (w2.alloc (.cells (rgA (backV (trapV r V 9#64))) 60)) ∧ W0.heap.size ≤ (w2.alloc (.cells (rgA (backV (trapV r V 9#64))) 60)).heap.size := ⟨b3.1.alloc b3.2 _, by have := b3.2; simp; omega⟩
        obtain ⟨hX, d8, d9, d10, d11⟩ := back_cells hP4.out
        obtain ⟨_, _, c15, c16, _⟩ := reg_all hP4.out
        have hT := Blk.new w2 (rgA (backV (trapV r V 9#64))) 60
        have t0 : (ldX w2.heap.size).run Try.prog (w2.alloc (.cells (rgA (backV (trapV r V 9#64))) 60)) = .ok (.agg (xsA r)) (w2.alloc (.cells (rgA (backV (trapV r V 9#64))) 60)) := by have := load_xs hT.rowAt; exact this
        have t8 : (w2.alloc (.cells (rgA (backV (trapV r V 9#64))) 60)).cell? ⟨w2.heap.size, 8, none⟩ = some (.int .u64 (uv r.pc)) := hT.cell 8
        have t9 : (w2.alloc (.cells (rgA (backV (trapV r V 9#64))) 60)).cell? ⟨w2.heap.size, 9, none⟩ = some (.int .u64 (uv r.s0)) := hT.cell 9
        have t10 : (w2.alloc (.cells (rgA (backV (trapV r V 9#64))) 60)).cell? ⟨w2.heap.size, 10, none⟩ = some (.int .u64 (uv r.s1)) := hT.cell 10
        have t11 : (w2.alloc (.cells (rgA (backV (trapV r V 9#64))) 60)).cell? ⟨w2.heap.size, 11, none⟩ = some (.int .u64 (uv r.s2)) := hT.cell 11
        have t12 : (w2.alloc (.cells (rgA (backV (trapV r V 9#64))) 60)).cell? ⟨w2.heap.size, 12, none⟩ = some (.int .u64 (uv r.pc)) := hT.cell 12
        have t13 : (w2.alloc (.cells (rgA (backV (trapV r V 9#64))) 60)).cell? ⟨w2.heap.size, 13, none⟩ = some (.int .u64 (uv V)) := hT.cell 13
        have t14 : (w2.alloc (.cells (rgA (backV (trapV r V 9#64))) 60)).cell? ⟨w2.heap.size, 14, none⟩ = some (.int .u64 9) := hT.cell 14
        have nx := neq_xs r
        have gx := guardX
        clear hT hP3 b3
        go_wp2_with (first | (refine wpList_store_new rfl 60 _ _ rfl (rgA (backV (trapV r V 9#64))) rfl rfl 60 _ (by kernel_rfl) rfl (rg_one _) ?_))
        clear hX d8 d9 d10 d11 c15 c16 t0 t8 t9 t10 t11 t12 t13 t14
        go_loopw [6] (fun i wq => ∃ k : Int, (0 ≤ k ∧ k ≤ 6) ∧ i = .int .i64 k ∧ (Below W0.heap.size W0 wq ∧ W0.heap.size ≤ wq.heap.size) ∧ Hid (Blk wq W0.heap.size (askA r K V p l c))) (fun i _ => (6 - intOf i).toNat)
        case atStart => exact ⟨0, by omega, rfl, b4, hP4⟩
        case round =>
          clear b4 hP4
          obtain ⟨k, ⟨hk0, hk1⟩, rfl, b4, hP4⟩ := hrel
          by_cases hk : k ≤ 5
          · have H : Hid (btwB k 0 5 = true) := Lib.hid (btw_yes hk0 hk)
            obtain ⟨_, hL, c15, c16, _⟩ := reg_all hP4.out
            go_wp2_with fail
            refine (gset r k V _ H.out).mono ?_
            rintro e w5 ⟨rfl, hb5⟩
            have hP5 := hP4.out.next hb5
            have b5 := below_next b4.1 b4.2 hb5
            clear hb5 hP4 b4 hL c15 c16
            have hP6 := Lib.hid (hP5.alloc (.cells (rgA (setV r k V)) 60))
            have b6 : Below W0.heap.size W0 (w5.alloc (.cells (rgA (setV r k V)) 60)) ∧ W0.heap.size ≤ (w5.alloc (.cells (rgA (setV r k V)) 60)).heap.size := ⟨b5.1.alloc b5.2 _, by have := b5.2; simp; omega⟩
            obtain ⟨hX, d8, _⟩ := back_cells hP6.out
            have hT := Lib.hid (Blk.new w5 (rgA (setV r k V)) 60)
            have t0 : (ldX w5.heap.size).run Try.prog (w5.alloc (.cells (rgA (setV r k V)) 60)) = .ok (.agg (xsA r)) (w5.alloc (.cells (rgA (setV r k V)) 60)) := by rw [← xs_set r k V H.out]; exact load_xs hT.out.rowAt
            have t8 : (w5.alloc (.cells (rgA (setV r k V)) 60)).cell? ⟨w5.heap.size, 8, none⟩ = some (.int .u64 (uv r.pc)) := by rw [← (set_keeps r k V H.out).2.2.2.2.2.2.2.2]; exact hT.out.cell 8
            clear hP5 b5
            go_wp2_with (first
              | (go_at_call 29; refine (num_any _ _).mono ?_; rintro e w7 ⟨rfl, rfl⟩)
              | (refine wpList_store_new rfl 60 _ _ rfl (rgA (setV r k V)) rfl rfl 60 _ (by kernel_rfl) rfl (rg_one _) ?_))
            have hX7 := Lib.hid hT.out
            clear hX d8 t0 t8 hT
            go_loopw [9] (fun i wq => ∃ j : Int, (0 ≤ j ∧ j ≤ 6) ∧ i = .int .i64 j ∧ (Below W0.heap.size W0 wq ∧ W0.heap.size ≤ wq.heap.size) ∧ Hid (Blk wq W0.heap.size (askA r K V p l c)) ∧ Hid (Blk wq w5.heap.size (rgA (setV r k V)))) (fun i _ => (6 - intOf i).toNat)
            case atStart => exact ⟨0, by omega, rfl, b6, hP6, hX7⟩
            case round =>
              clear b6 hP6 hX7
              obtain ⟨j, ⟨hj0, hj1⟩, rfl, b6, hP6, hX6⟩ := hrel
              by_cases hj : j ≤ 5
              · have HJ : Hid (btwB j 0 5 = true) := Lib.hid (btw_yes hj0 hj)
                have hLx := load_regs hX6.out.rowAt
                go_wp2_with fail
                refine (gget (setV r k V) j true _ HJ.out).mono ?_
                rintro e w7 ⟨rfl, hb7⟩
                have hP7 := Lib.hid (hP6.out.next hb7)
                have hX7 := Lib.hid (hX6.out.next hb7)
                have b7 := below_next b6.1 b6.2 hb7
                clear hb7 hP6 hX6 b6 hLx
                obtain ⟨_, hL, c15, c16, _⟩ := reg_all hP7.out
                go_wp2_with fail
                refine (gget r j true _ HJ.out).mono ?_
                rintro e w8 ⟨rfl, hb8⟩
                have hP8 := Lib.hid (hP7.out.next hb8)
                have hX8 := Lib.hid (hX7.out.next hb8)
                have b8 := below_next b7.1 b7.2 hb8
                clear hb8 hP7 hX7 b7 hL c15 c16
                obtain ⟨_, _, _, c16, _⟩ := reg_all hP8.out
                by_cases hjk : j = k
                · subst hjk
                  have hsv := set_get r j V H.out
                  go_wp2_with (go_at_call 29; refine (num_any _ _).mono ?_; rintro e w9 ⟨rfl, rfl⟩)
                  go_roundw
                  case rel => exact ⟨j + 1, by omega, rfl, b8, hP8, hX8⟩
                  case measure => simp [intOf]; omega
                · have hjk1 : (j == k) = false := by rw [beq_eq_false_iff_ne]; exact hjk
                  have hjk2 : (j != k) = true := by rw [bne_iff_ne]; exact hjk
                  have hsv := set_other r k j V H.out HJ.out hjk
                  go_wp2_with (go_at_call 29; refine (num_any _ _).mono ?_; rintro e w9 ⟨rfl, rfl⟩)
                  go_roundw
                  case rel => exact ⟨j + 1, by omega, rfl, b8, hP8, hX8⟩
                  case measure => simp [intOf]; omega
              · obtain rfl : j = 6 := by omega
                go_wp2_with fail
                go_roundw
                case rel => exact ⟨k + 1, by omega, rfl, b6, hP6⟩
                case measure => simp [intOf]; omega
          · obtain rfl : k = 6 := by omega
            obtain ⟨_, hL, c15, c16, _⟩ := reg_all hP4.out
            have hw15 : (wr.alloc (.cells (rgA r) 60)).cell? ⟨W0.heap.size, 15, none⟩ = some (.int .i64 K) := cell_later ((Below.refl _ _).alloc (Nat.le_refl _) _) c15
            go_wp2_with (first | (refine wpList_store_new rfl 60 _ _ rfl (rgA r) rfl rfl 60 _ (by kernel_rfl) rfl (rg_one _) ?_))
            have hR9 := Lib.hid (Blk.new wr (rgA r) 60)
            have b9 : Below W0.heap.size W0 (wr.alloc (.cells (rgA r) 60)) ∧ W0.heap.size ≤ (wr.alloc (.cells (rgA r) 60)).heap.size := ⟨b4.1.alloc b4.2 _, by have := b4.2; simp; omega⟩
            have hm : (q : Int).tmod 2 = (q : Int) % 2 := Int.tmod_eq_emod_of_nonneg k0
            have hm2 : wrap64 ((q : Int) % 2) = (q : Int) % 2 := by unfold wrap64; omega
            have hlw : W0.heap.size ≤ wr.heap.size := b4.2
            clear hP4 hL c15 c16 b4
            go_region_held3 (fun w' => w'.cell? ⟨W0.heap.size, 15, none⟩ = some (.int .i64 K))
              (go_keep)
              (first | (go_at_call 23; refine (within_eq _ _ _ (by omega) (by omega)).mono ?_; rintro e w11 ⟨rfl, rfl⟩))
            all_goals
              have HO := Lib.hid (ok_within K (K / 32))
              have hle := hlw
              rcases hon : ((q : Int) % 2 == 0) with _ | _
              · have hQ9 := Lib.hid ((Blk.new_at (wr.alloc (.cells (rgA r) 60)) #[.bool false, .int .i64 (withinI K 4096), .int .i64 (withinI (K / 32) 16)] 28 (wr.heap.size + 1) (by simp)).drew)
                go_wp2_with fail
                refine (rrootword false (withinI K 4096) (withinI (K / 32) 16) _ HO.out).mono ?_
                rintro e w12 ⟨rfl, hb12⟩
                have hR12 := ((hR9.out.alloc (.cells #[.bool false, .int .i64 (withinI K 4096), .int .i64 (withinI (K / 32) 16)] 28)).drew).next hb12
                have hQ12 := hQ9.out.next hb12
                have b12 := below_next (w := W0) (b9.1.alloc b9.2 (.cells #[.bool false, .int .i64 (withinI K 4096), .int .i64 (withinI (K / 32) 16)] 28)).drew (by have := b9.2; simp at this ⊢; omega) hb12
                clear hb12 hQ9
                generalize withinI K 4096 = f at *
                generalize withinI (K / 32) 16 = t at *
                have c9 := hR12.cell 9
                have c10 := hR12.cell 10
                have f9 := hR12.frozen 9
                have f10 := hR12.frozen 10
                have d0 : w12.cell? ⟨wr.heap.size + 1, 0, none⟩ = some (.bool false) := hQ12.cell 0
                have R13 : Blk ((w12.setCell ⟨wr.heap.size, 9, none⟩ (.int .u64 (uv (rootB false f t)))).setCell ⟨wr.heap.size, 10, none⟩ (.int .u64 0)) wr.heap.size (rgA { r with s0 := rootB false f t, s1 := onB false }) := (hR12.set 9 (.int .u64 (uv (rootB false f t)))).set 10 (.int .u64 0)
                have Q13 : Blk ((w12.setCell ⟨wr.heap.size, 9, none⟩ (.int .u64 (uv (rootB false f t)))).setCell ⟨wr.heap.size, 10, none⟩ (.int .u64 0)) (wr.heap.size + 1) #[.bool false, .int .i64 f, .int .i64 t] := (hQ12.set_ne (by omega : wr.heap.size ≠ wr.heap.size + 1) 9 _).set_ne (by omega : wr.heap.size ≠ wr.heap.size + 1) 10 _
                have b13 : Below W0.heap.size W0 ((w12.setCell ⟨wr.heap.size, 9, none⟩ (.int .u64 (uv (rootB false f t)))).setCell ⟨wr.heap.size, 10, none⟩ (.int .u64 0)) ∧ W0.heap.size ≤ ((w12.setCell ⟨wr.heap.size, 9, none⟩ (.int .u64 (uv (rootB false f t)))).setCell ⟨wr.heap.size, 10, none⟩ (.int .u64 0)).heap.size := ⟨(b12.1.setCell hle _).setCell hle _, by have := b12.2; simpa using this⟩
                have hS := end_all R13 Q13
                have hS' := end_drew hS
                obtain ⟨hRA, hLD, e0, e1, e2⟩ := id hS
                have n1 : ∀ w, (binOp .neq 28 (.agg (oneA { r with s0 := rootB false f t, s1 := onB false })) (.agg #[.bool false, .int .i64 f, .int .i64 t])).run Try.prog w = .ok (.bool false) w := fun w => by rw [one_root r false f t HO.out]; exact neq_root _ _ _ w
                have g2 := guardRoot
                clear hR12 hQ12 R13 Q13 b12
                have d0' : (w12.setCell ⟨wr.heap.size, 9, none⟩ (.int .u64 (uv (rootB false f t)))).cell? ⟨wr.heap.size + 1, 0, none⟩ = some (.bool false) := by rw [World.cell?_setCell_other _ _ _ _ (by simp)]; exact d0
                go_wp2_with fail
                go_region_held3 (fun w' => RowAt w' wr.heap.size 0 (rgA { r with s0 := rootB false f t, s1 := onB false }) ∧ (ldR wr.heap.size).run Try.prog w' = .ok (.agg (rgA { r with s0 := rootB false f t, s1 := onB false })) w' ∧ w'.cell? ⟨wr.heap.size + 1, 0, none⟩ = some (.bool false) ∧ w'.cell? ⟨wr.heap.size + 1, 1, none⟩ = some (.int .i64 f) ∧ w'.cell? ⟨wr.heap.size + 1, 2, none⟩ = some (.int .i64 t))
                  (first | go_keep | exact hS' | exact end_on hb14 (by assumption))
                  (first | (go_at_call 30; refine (gone { r with s0 := rootB false f t, s1 := onB false } _).mono ?_; rintro e w14 ⟨rfl, hb14⟩))
                have b14 := below_next (w := W0) b13.1.drew b13.2 hb14
                clear hS hS' hRA hLD e0 e1 e2 n1 hb14 b13 c9 c10 f9 f10 d0 d0'
                go_wp2_with fail
                go_roundw
                case rel => exact ⟨q + 1, by omega, by omega, by go_num, HB.out.trans (b14.1.mono hz), Nat.le_trans hz b14.2⟩
                case measure => simp [intOf]; omega
              · have hQ9 := Lib.hid ((Blk.new_at (wr.alloc (.cells (rgA r) 60)) #[.bool true, .int .i64 (withinI K 4096), .int .i64 (withinI (K / 32) 16)] 28 (wr.heap.size + 1) (by simp)).drew)
                go_wp2_with fail
                refine (rrootword true (withinI K 4096) (withinI (K / 32) 16) _ HO.out).mono ?_
                rintro e w12 ⟨rfl, hb12⟩
                have hR12 := ((hR9.out.alloc (.cells #[.bool true, .int .i64 (withinI K 4096), .int .i64 (withinI (K / 32) 16)] 28)).drew).next hb12
                have hQ12 := hQ9.out.next hb12
                have b12 := below_next (w := W0) (b9.1.alloc b9.2 (.cells #[.bool true, .int .i64 (withinI K 4096), .int .i64 (withinI (K / 32) 16)] 28)).drew (by have := b9.2; simp at this ⊢; omega) hb12
                clear hb12 hQ9
                generalize withinI K 4096 = f at *
                generalize withinI (K / 32) 16 = t at *
                have c9 := hR12.cell 9
                have c10 := hR12.cell 10
                have f9 := hR12.frozen 9
                have f10 := hR12.frozen 10
                have d0 : w12.cell? ⟨wr.heap.size + 1, 0, none⟩ = some (.bool true) := hQ12.cell 0
                have R13 : Blk (((w12.setCell ⟨wr.heap.size, 9, none⟩ (.int .u64 (uv (rootB true f t)))).setCell ⟨wr.heap.size, 10, none⟩ (.int .u64 0)).setCell ⟨wr.heap.size, 10, none⟩ (.int .u64 1)) wr.heap.size (rgA { r with s0 := rootB true f t, s1 := onB true }) := ((hR12.set 9 (.int .u64 (uv (rootB true f t)))).set 10 (.int .u64 0)).set 10 (.int .u64 1)
                have Q13 : Blk (((w12.setCell ⟨wr.heap.size, 9, none⟩ (.int .u64 (uv (rootB true f t)))).setCell ⟨wr.heap.size, 10, none⟩ (.int .u64 0)).setCell ⟨wr.heap.size, 10, none⟩ (.int .u64 1)) (wr.heap.size + 1) #[.bool true, .int .i64 f, .int .i64 t] := ((hQ12.set_ne (by omega : wr.heap.size ≠ wr.heap.size + 1) 9 _).set_ne (by omega : wr.heap.size ≠ wr.heap.size + 1) 10 _).set_ne (by omega : wr.heap.size ≠ wr.heap.size + 1) 10 _
                have b13 : Below W0.heap.size W0 (((w12.setCell ⟨wr.heap.size, 9, none⟩ (.int .u64 (uv (rootB true f t)))).setCell ⟨wr.heap.size, 10, none⟩ (.int .u64 0)).setCell ⟨wr.heap.size, 10, none⟩ (.int .u64 1)) ∧ W0.heap.size ≤ (((w12.setCell ⟨wr.heap.size, 9, none⟩ (.int .u64 (uv (rootB true f t)))).setCell ⟨wr.heap.size, 10, none⟩ (.int .u64 0)).setCell ⟨wr.heap.size, 10, none⟩ (.int .u64 1)).heap.size := ⟨((b12.1.setCell hle _).setCell hle _).setCell hle _, by have := b12.2; simpa using this⟩
                have hS := end_all R13 Q13
                have hS' := end_drew hS
                obtain ⟨hRA, hLD, e0, e1, e2⟩ := id hS
                have n1 : ∀ w, (binOp .neq 28 (.agg (oneA { r with s0 := rootB true f t, s1 := onB true })) (.agg #[.bool true, .int .i64 f, .int .i64 t])).run Try.prog w = .ok (.bool false) w := fun w => by rw [one_root r true f t HO.out]; exact neq_root _ _ _ w
                have g2 := guardRoot
                clear hR12 hQ12 R13 Q13 b12
                have d0' : (w12.setCell ⟨wr.heap.size, 9, none⟩ (.int .u64 (uv (rootB true f t)))).cell? ⟨wr.heap.size + 1, 0, none⟩ = some (.bool true) := by rw [World.cell?_setCell_other _ _ _ _ (by simp)]; exact d0
                go_wp2_with fail
                go_region_held3 (fun w' => RowAt w' wr.heap.size 0 (rgA { r with s0 := rootB true f t, s1 := onB true }) ∧ (ldR wr.heap.size).run Try.prog w' = .ok (.agg (rgA { r with s0 := rootB true f t, s1 := onB true })) w' ∧ w'.cell? ⟨wr.heap.size + 1, 0, none⟩ = some (.bool true) ∧ w'.cell? ⟨wr.heap.size + 1, 1, none⟩ = some (.int .i64 f) ∧ w'.cell? ⟨wr.heap.size + 1, 2, none⟩ = some (.int .i64 t))
                  (first | go_keep | exact hS' | exact end_on hb14 (by assumption))
                  (first | (go_at_call 30; refine (gone { r with s0 := rootB true f t, s1 := onB true } _).mono ?_; rintro e w14 ⟨rfl, hb14⟩))
                have b14 := below_next (w := W0) b13.1.drew b13.2 hb14
                clear hS hS' hRA hLD e0 e1 e2 n1 hb14 b13 c9 c10 f9 f10 d0 d0'
                go_wp2_with fail
                go_roundw
                case rel => exact ⟨q + 1, by omega, by omega, by go_num, HB.out.trans (b14.1.mono hz), Nat.le_trans hz b14.2⟩
                case measure => simp [intOf]; omega
      · clear hc hp
        go_wp2_with (go_at_call 38; refine (wakes_1 _).mono ?_; rintro e w1 ⟨rfl, hb1⟩)
        go_ret
        exact ⟨rfl, hB.trans (hb1.mono hz)⟩
    · clear hc hp
      go_wp2_with (go_at_call 38; refine (wakes_1 _).mono ?_; rintro e w1 ⟨rfl, hb1⟩)
      go_ret
      exact ⟨rfl, hB.trans (hb1.mono hz)⟩
end Go.Proofs.Ytfialajiaphciaa.law13
