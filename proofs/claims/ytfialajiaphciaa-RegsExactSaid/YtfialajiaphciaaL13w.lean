/- RegsExact: the walk. -/
import Derived.Test.YtfialajiaphciaaL13c
import Derived.Deep.RegionWith
namespace Go.Proofs.Ytfialajiaphciaa.law13
open Go.RowKit
attribute [local go_sem] uv_and uv_or uv_xor uv_andNot uv_shr uv_shl uv_add uv_sub uv_neg uv_beq uv_beq0 uv_beq1 uv_bne uv_bne0 u64_signed uv_not sv_i64 sv_shr uv_sv ones_shr sv_w64 uv_and1
attribute [local go_sem ↓] ldV_fold
attribute [local go_sem] ldV_at

set_option maxRecDepth 100000 in
set_option maxHeartbeats 16000000 in
theorem exact_walk (pa : Option Addr) (b off len cap : Nat) (w : World) (hp : 0 < len → pa = some ⟨b, off, none⟩)
    (hc : ∀ i, i < len → ∃ r K V p l c, AskAt w b (off + i * 18) r K V p l c ∧ (∃ ns, ns.length = l ∧ IntsL w p ns) ∧ l ≤ maxLen) :
    Calls Try.prog 7 #[.slice pa len cap] w fun e w' => e = .returned (.bool true) ∧ Below w.heap.size w w' := by
  have HP := Lib.hid hp
  have HC := Lib.hid hc
  clear hp hc
  go_enter Try.func7, Try.ntmps7
  go_wp2
  go_loopw [3] (fun i wr => ∃ k : Nat, k ≤ len ∧ k ≤ 15 ∧ i = .int .i64 k ∧ Below w.heap.size w wr ∧ w.heap.size ≤ wr.heap.size) (fun i _ => 15 - (intOf i).toNat)
  case atStart => exact ⟨0, Nat.zero_le _, Nat.zero_le _, rfl, Below.refl _ _, Nat.le_refl _⟩
  case round =>
    rename World => W0
    obtain ⟨q, hq, hq15, rfl, hB, hz⟩ := hrel
    have hp := HP.out
    have hc := HC.out
    clear HP HC
    by_cases hlt : q < len
    · by_cases hlt15 : q < 15
      · obtain ⟨r, K, V, p, l, c, hA, ⟨ns, hnl, hns⟩, hlm⟩ := hc q hlt
        obtain rfl := hp (by omega)
        have HA := Lib.hid ((ask_row hA).next hB)
        have HN := Lib.hid (ints_later hns hB)
        have k0 : (0 : Int) ≤ (q : Int) := Int.natCast_nonneg _
        have k1 : (q : Int) < (len : Int) := by omega
        clear hc hp hA hns
        have hw17 : (W0.alloc (.cells (askA r K V p l c) 63)).cell? ⟨W0.heap.size, 17, none⟩ = some (.slice p l c) := (Blk.new W0 _ _).cell 17
        by_cases hh : 300 < l
        · have hd : decide ((300 : Int) < l) = true := by rw [decide_eq_true_eq]; omega
          go_wp2_with (first
            | (refine wpList_load_at rfl 63 _ rfl b (off + q * 18) rfl (askA r K V p l c) _ HA.out Try.underlying63 rfl (by kernel_rfl) ?_)
            | (refine wpList_store_new rfl 63 _ _ rfl (askA r K V p l c) rfl rfl 63 _ (by kernel_rfl) rfl (ask_one _ _ _ _ _ _) ?_))
          go_ret
          exact ⟨rfl, hB.alloc hz _⟩
        · have hd : decide ((300 : Int) < l) = false := by rw [decide_eq_false_iff_not]; omega
          go_wp2_with (first
            | (refine wpList_load_at rfl 63 _ rfl b (off + q * 18) rfl (askA r K V p l c) _ HA.out Try.underlying63 rfl (by kernel_rfl) ?_)
            | (refine wpList_store_new rfl 63 _ _ rfl (askA r K V p l c) rfl rfl 63 _ (by kernel_rfl) rfl (ask_one _ _ _ _ _ _) ?_))
          have hB1 := (Below.refl W0.heap.size W0).alloc (Nat.le_refl _) (.cells (askA r K V p l c) 63)
          have hz1 : W0.heap.size ≤ (W0.alloc (.cells (askA r K V p l c) 63)).heap.size := by simp
          have HB := Lib.hid hB
          clear hB
          have P1 := Blk.new W0 (askA r K V p l c) 63
          clear hw17 hd HA
          go_loopw [5] (fun i wq => ∃ k : Int, (-1 ≤ k ∧ k ≤ 7) ∧ i = .int .i64 k ∧ (Below W0.heap.size W0 wq ∧ W0.heap.size ≤ wq.heap.size) ∧ Hid (Blk wq W0.heap.size (askA r K V p l c))) (fun i _ => (7 - intOf i).toNat)
          case atStart => exact ⟨-1, by omega, rfl, ⟨hB1, hz1⟩, Lib.hid P1⟩
          case round =>
            clear hB1 hz1 P1
            obtain ⟨k, ⟨hk0, hk1⟩, rfl, ⟨hB, hz'⟩, HPB⟩ := hrel
            by_cases hk : k ≤ 6
            · rcases hbk : btwB k 0 5 with _ | _
              · have H := Lib.hid hbk
                clear hbk
                go_wp2_with (first | (refine wpList_load_at rfl 60 _ rfl W0.heap.size 0 rfl (rgA r) _ (box_regs HPB.out) Try.underlying60 rfl (by kernel_rfl) ?_))
                refine (gget _ _ _ _ H.out).mono ?_
                rintro e w1 ⟨rfl, hb1⟩
                have s1 := below_next hB hz' hb1
                have PB1 := Lib.hid (HPB.out.next hb1)
                have c16 : w1.cell? ⟨W0.heap.size, 16, none⟩ = some (.int .u64 (uv V)) := PB1.out.cell 16
                clear hb1 hB hz' HPB
                go_wp2_with (first | (refine wpList_load_at rfl 60 _ rfl W0.heap.size 0 rfl (rgA r) _ (box_regs PB1.out) Try.underlying60 rfl (by kernel_rfl) ?_))
                refine (set_no _ _ _ _ H.out).mono ?_
                rintro e w2 ⟨rfl, hb2⟩
                have s2 := below_next s1.1 s1.2 hb2
                have PB2 := Lib.hid (PB1.out.next hb2)
                clear hb2 s1 PB1 c16
                go_wp2_with (first | (refine wpList_store_new rfl 60 _ _ rfl (rgA zeroRG) rfl rfl 60 _ (by kernel_rfl) rfl (rg_one _) ?_))
                have X2 := Lib.hid (((Blk.new w2 (rgA zeroRG) 60).alloc (.cells (rgA zeroRG) 60)).rowAt)
                have Y2 := Lib.hid ((Blk.new_at (w2.alloc (.cells (rgA zeroRG) 60)) (rgA zeroRG) 60 (w2.heap.size + 1) (by simp)).rowAt)
                refine (rrsys _ _ _ H.out).mono ?_
                rintro e w3 ⟨rfl, rfl⟩
                have ns := neq_regs zeroRG
                have gq := guardRegs
                go_wp2_with (first
                  | (go_at_call 29; refine (num_any _ _).mono ?_; rintro e w7 ⟨rfl, rfl⟩)
                  | (refine wpList_load_g rfl 60 _ rfl w2.heap.size 0 rfl (rgA zeroRG) _ X2.out Try.underlying60 rfl (by kernel_rfl) ?_)
                  | (refine wpList_load_g rfl 60 _ rfl (w2.heap.size + 1) 0 rfl (rgA zeroRG) _ Y2.out Try.underlying60 rfl (by kernel_rfl) ?_))
                go_roundw
                case rel => exact ⟨k + 1, ⟨by omega, by omega⟩, rfl, ⟨(s2.1.alloc s2.2 _).alloc (by have := s2.2; simp; omega) _, by have := s2.2; simp; omega⟩, Lib.hid ((PB2.out.alloc _).alloc _)⟩
                case measure => simp [intOf]; omega
              · have H := Lib.hid hbk
                clear hbk
                go_wp2_with (first | (refine wpList_load_at rfl 60 _ rfl W0.heap.size 0 rfl (rgA r) _ (box_regs HPB.out) Try.underlying60 rfl (by kernel_rfl) ?_))
                refine (gget _ _ _ _ H.out).mono ?_
                rintro e w1 ⟨rfl, hb1⟩
                have s1 := below_next hB hz' hb1
                have PB1 := Lib.hid (HPB.out.next hb1)
                have c16 : w1.cell? ⟨W0.heap.size, 16, none⟩ = some (.int .u64 (uv V)) := PB1.out.cell 16
                clear hb1 hB hz' HPB
                go_wp2_with (first | (refine wpList_load_at rfl 60 _ rfl W0.heap.size 0 rfl (rgA r) _ (box_regs PB1.out) Try.underlying60 rfl (by kernel_rfl) ?_))
                refine (gset _ _ _ _ H.out).mono ?_
                rintro e w2 ⟨rfl, hb2⟩
                have s2 := below_next s1.1 s1.2 hb2
                have PB2 := Lib.hid (PB1.out.next hb2)
                clear hb2 s1 PB1 c16
                go_wp2_with (first | (refine wpList_store_new rfl 60 _ _ rfl (rgA (setV r k V)) rfl rfl 60 _ (by kernel_rfl) rfl (rg_one _) ?_))
                have X2 := Lib.hid (((Blk.new w2 (rgA (setV r k V)) 60).alloc (.cells (rgA zeroRG) 60)))
                have Y2 := Lib.hid ((Blk.new_at (w2.alloc (.cells (rgA (setV r k V)) 60)) (rgA zeroRG) 60 (w2.heap.size + 1) (by simp)))
                have PB3 := Lib.hid ((PB2.out.alloc (.cells (rgA (setV r k V)) 60)).alloc (.cells (rgA zeroRG) 60))
                have s3 : Below W0.heap.size W0 ((w2.alloc (.cells (rgA (setV r k V)) 60)).alloc (.cells (rgA zeroRG) 60)) ∧ W0.heap.size ≤ ((w2.alloc (.cells (rgA (setV r k V)) 60)).alloc (.cells (rgA zeroRG) 60)).heap.size := ⟨(s2.1.alloc s2.2 _).alloc (by have := s2.2; simp; omega) _, by have := s2.2; simp; omega⟩
                have hs3 : ((w2.alloc (.cells (rgA (setV r k V)) 60)).alloc (.cells (rgA zeroRG) 60)).heap.size = w2.heap.size + 2 := by simp
                change Calls _ _ _ ((w2.alloc (.cells (rgA (setV r k V)) 60)).alloc (.cells (rgA zeroRG) 60)) _
                generalize (w2.alloc (.cells (rgA (setV r k V)) 60)).alloc (.cells (rgA zeroRG) 60) = w3 at *
                have hz3 : w2.heap.size + 1 < w3.heap.size := by omega
                have hne : w2.heap.size + 1 ≠ W0.heap.size := by have := PB2.out.lt; omega
                have hle : W0.heap.size ≤ w2.heap.size + 1 := by have := PB2.out.lt; omega
                clear s2 PB2 hs3
                refine (rrsys _ _ _ H.out).mono ?_
                rintro e w4 ⟨rfl, rfl⟩
                have hS := reg_all PB3.out
                have hS' := reg_drew hS
                obtain ⟨hR, hL, c15, c16, c17⟩ := id hS
                go_wp2_with fail
                go_region_held3 (fun w' => RowAt w' W0.heap.size 0 (rgA r) ∧ (ldR W0.heap.size).run Try.prog w' = .ok (.agg (rgA r)) w' ∧ w'.cell? ⟨W0.heap.size, 15, none⟩ = some (.int .i64 K) ∧ w'.cell? ⟨W0.heap.size, 16, none⟩ = some (.int .u64 (uv V)) ∧ w'.cell? ⟨W0.heap.size, 17, none⟩ = some (.slice p l c))
                  (first | go_keep | exact hS' | exact reg_on hb5 (by assumption) | exact reg_on hb6 (by assumption) | exact reg_row hne (by assumption))
                  (first | (go_at_call 27; refine (rrget r k _ H.out).mono ?_; rintro e w5 ⟨rfl, hb5⟩) | (go_at_call 28; refine (rrset r k V _ H.out).mono ?_; rintro e w6 ⟨rfl, hb6⟩; have hst := run_store_rg (P := Try.prog) ((Y2.out.drew.next hb5).next hb6) (rgA (setV r k V)) rfl (rg_one _)))
                have s6 := below_next (below_next (w := W0) s3.1.drew s3.2 hb5).1 (below_next (w := W0) s3.1.drew s3.2 hb5).2 hb6
                have PB6 := Lib.hid (((PB3.out.drew.next hb5).next hb6).row_ne hne (rgA (setV r k V)))
                have X6 := Lib.hid (((X2.out.drew.next hb5).next hb6).row_ne (by omega : w2.heap.size + 1 ≠ w2.heap.size) (rgA (setV r k V)))
                have Y6 := Lib.hid (((Y2.out.drew.next hb5).next hb6).row (rgA (setV r k V)))
                have ns := neq_regs (setV r k V)
                have gq := guardRegs
                clear hb5 hb6 PB3 X2 Y2 hS hS' hR hL c15 c16 c17
                go_wp2_with (first
                  | (go_at_call 29; refine (num_any _ _).mono ?_; rintro e w7 ⟨rfl, rfl⟩)
                  | (refine wpList_load_g rfl 60 _ rfl w2.heap.size 0 rfl (rgA (setV r k V)) _ X6.out.rowAt Try.underlying60 rfl (by kernel_rfl) ?_)
                  | (refine wpList_load_g rfl 60 _ rfl (w2.heap.size + 1) 0 rfl (rgA (setV r k V)) _ Y6.out.rowAt Try.underlying60 rfl (by kernel_rfl) ?_))
                go_roundw
                case rel => exact ⟨k + 1, ⟨by omega, by omega⟩, rfl, ⟨below_setRow s6.1 hle _, by rw [size_setRow]; exact s6.2⟩, PB6⟩
                case measure => simp [intOf]; omega
            · obtain rfl : k = 7 := by omega
              have c15 : wr.cell? ⟨W0.heap.size, 15, none⟩ = some (.int .i64 K) := HPB.out.cell 15
              go_wp2_with (first | (refine wpList_load_at rfl 60 _ rfl W0.heap.size 0 rfl (rgA r) _ (box_regs HPB.out) Try.underlying60 rfl (by kernel_rfl) ?_))
              obtain ⟨bb, hbb⟩ : ∃ bb, btwB K 0 5 = bb := ⟨_, rfl⟩
              have H := Lib.hid hbb
              clear hbb
              refine (gget _ _ _ _ H.out).mono ?_
              rintro e w1 ⟨rfl, hb1⟩
              have s1 := below_next hB hz' hb1
              have PB1 := Lib.hid (HPB.out.next hb1)
              clear hb1 hB hz' HPB c15
              have hE : ((if bb = true then (0 : Int) else 1) == 0) = bb := by cases bb <;> rfl
              generalize (if bb = true then (0 : Int) else 1) = E at hE ⊢
              generalize (if bb = true then sysV r K else 0#64) = G
              have hS := reg_all PB1.out
              have hS' := reg_drew hS
              obtain ⟨hR, hL, c15, c16, c17⟩ := id hS
              obtain ⟨Q, hQ⟩ : ∃ Q : BitVec 64, IntKind.u64.wrap (q : Int) = uv Q := ⟨_, uv_ofInt _⟩
              have n1 : ∀ w, (binOp .neq 28 (.agg (oneA r)) (.agg (oneA r))).run Try.prog w = .ok (.bool false) w := fun w => neq_root _ _ _ w
              have n2 := neq_regs (trapV r V Q)
              have n3 := neq_regs (backV r)
              have g1 := guardRegs
              have g2 := guardRoot
              go_wp2_with fail
              go_region_held3 (fun w' => RowAt w' W0.heap.size 0 (rgA r) ∧ (ldR W0.heap.size).run Try.prog w' = .ok (.agg (rgA r)) w' ∧ w'.cell? ⟨W0.heap.size, 15, none⟩ = some (.int .i64 K) ∧ w'.cell? ⟨W0.heap.size, 16, none⟩ = some (.int .u64 (uv V)) ∧ w'.cell? ⟨W0.heap.size, 17, none⟩ = some (.slice p l c))
                (first | go_keep | exact hS' | exact reg_on hb3 (by assumption) | exact reg_on hb4 (by assumption) | exact reg_on hb5 (by assumption) | exact reg_on hb6 (by assumption) | exact reg_on hb7 (by assumption) | exact reg_on hb8 (by assumption))
                (first | (go_at_call 29; refine (num_any _ _).mono ?_; rintro e w2 ⟨rfl, rfl⟩) | (go_at_call 26; refine (rrsys K _ _ H.out).mono ?_; rintro e w2 ⟨rfl, rfl⟩) | (go_at_call 30; refine (gone r _).mono ?_; rintro e w3 ⟨rfl, hb3⟩) | (go_at_call 31; refine (rrone r _).mono ?_; rintro e w4 ⟨rfl, hb4⟩) | (go_at_call 32; refine (trap_any r V Q _).mono ?_; rintro e w5 ⟨rfl, hb5⟩) | (go_at_call 33; refine (rtrap_any r V Q _).mono ?_; rintro e w6 ⟨rfl, hb6⟩) | (go_at_call 34; refine (back_any r _).mono ?_; rintro e w7 ⟨rfl, hb7⟩) | (go_at_call 35; refine (rback_any r _).mono ?_; rintro e w8 ⟨rfl, hb8⟩))
              have t3 := below_next (w := W0) s1.1.drew s1.2 hb3
              have t4 := below_next t3.1 t3.2 hb4
              have t5 := below_next t4.1 t4.2 hb5
              have t6 := below_next t5.1 t5.2 hb6
              have t7 := below_next t6.1 t6.2 hb7
              have t8 := below_next t7.1 t7.2 hb8
              have PB8 := Lib.hid ((((((PB1.out.drew.next hb3).next hb4).next hb5).next hb6).next hb7).next hb8)
              clear hb3 hb4 hb5 hb6 hb7 hb8 t3 t4 t5 t6 t7 s1 PB1 n1 n2 n3 g2 hE hQ hS hS' hR hL c15 c16 c17
              have hl300 : l ≤ 300 := by omega
              have HNL := Lib.hid hnl
              have hIN : IntsL w8 p ns := ints_later HN.out t8.1
              have hIN' : IntsL w8.drew p ns := hIN
              have hS := reg_all PB8.out
              have hS' := reg_drew hS
              obtain ⟨hR, hL, c15, c16, c17⟩ := id hS
              have n4 := neq_regs { r with pc := nextV r.pc ns }
              have n5 := neq_regs { r with pc := nextV r.pc [] }
              clear hnl
              go_wp2_with fail
              go_region_held3 (fun w' => RowAt w' W0.heap.size 0 (rgA r) ∧ (ldR W0.heap.size).run Try.prog w' = .ok (.agg (rgA r)) w' ∧ w'.cell? ⟨W0.heap.size, 15, none⟩ = some (.int .i64 K) ∧ w'.cell? ⟨W0.heap.size, 16, none⟩ = some (.int .u64 (uv V)) ∧ w'.cell? ⟨W0.heap.size, 17, none⟩ = some (.slice p l c))
                (first | go_keep | exact hS' | exact reg_on hb3 (by assumption) | exact reg_on hb4 (by assumption) | exact reg_on hb5 (by assumption) | exact reg_on hb6 (by assumption))
                (first | (go_at_call_of 36 (Value.slice p l c); refine (gnext r p l c ns _ HNL.out hl300 hIN').mono ?_; rintro e w3 ⟨rfl, hb3⟩) | (go_at_call_of 37 (Value.slice p l c); refine (rrnext r p l c ns _ HNL.out hl300 (ints_later hIN' hb3)).mono ?_; rintro e w4 ⟨rfl, hb4⟩) | (go_at_call_of 36 (Value.slice none 0 0); refine (gnext r none 0 0 [] _ rfl (Nat.zero_le _) (ints_nil _)).mono ?_; rintro e w5 ⟨rfl, hb5⟩) | (go_at_call_of 37 (Value.slice none 0 0); refine (rrnext r none 0 0 [] _ rfl (Nat.zero_le _) (ints_nil _)).mono ?_; rintro e w6 ⟨rfl, hb6⟩))
              have t3 := below_next (w := W0) t8.1.drew t8.2 hb3
              have t4 := below_next t3.1 t3.2 hb4
              have t5 := below_next t4.1 t4.2 hb5
              have t6 := below_next t5.1 t5.2 hb6
              clear hb3 hb4 hb5 hb6 t3 t4 t5 n4 n5 hIN hIN' PB8 t8 hS hS' hR hL c15 c16 c17
              go_wp2_with fail
              go_roundw
              case rel => exact ⟨q + 1, by omega, by omega, by go_num, HB.out.trans (t6.1.mono hz), Nat.le_trans hz t6.2⟩
              case measure => simp [intOf]; omega
      · clear hc hp
        go_wp2_with (go_at_call 38; refine (wakes_1 _).mono ?_; rintro e w1 ⟨rfl, hb1⟩)
        go_ret
        exact ⟨rfl, hB.trans (hb1.mono hz)⟩
    · clear hc hp
      go_wp2_with (go_at_call 38; refine (wakes_1 _).mono ?_; rintro e w1 ⟨rfl, hb1⟩)
      go_ret
      exact ⟨rfl, hB.trans (hb1.mono hz)⟩
end Go.Proofs.Ytfialajiaphciaa.law13
