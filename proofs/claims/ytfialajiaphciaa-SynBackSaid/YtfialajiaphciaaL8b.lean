/- SynBack: the walk. -/
import Derived.Test.YtfialajiaphciaaL8a
namespace Go.Proofs.Ytfialajiaphciaa.law8
open Go.RowKit
attribute [local go_sem] uv_and uv_or uv_xor uv_andNot uv_shr uv_shl uv_add uv_sub uv_neg uv_beq uv_beq0 uv_beq1 uv_bne uv_bne0 u64_signed uv_not sv_i64 sv_shr uv_sv ones_shr sv_w64 uv_and1

theorem okSof_syn (k s l : Int) (wk : Bool) (p : Int) (h : okS k s l p = true) : okSof (synB k s l wk p) = true := by
  obtain ⟨h1, h2, h3, h4, h5⟩ := syn_back k s l wk p h
  unfold okSof
  rw [h1, h2, h3, h4, h5, h]
  cases wk <;> simp [onI]
theorem sof_word (k s l : Int) (wk : Bool) (p : Int) (w : World) (h : okS k s l p = true) :
    Calls Try.prog 19 #[.int .u64 (uv (synB k s l wk p))] w fun e w' => e = .returned (.tuple #[.agg #[.int .i64 k, .int .i64 s, .int .i64 l, .bool wk, .int .i64 p], .int .i64 0]) ∧ Below w.heap.size w w' := by
  obtain ⟨h1, h2, h3, h4, h5⟩ := syn_back k s l wk p h
  have H := sof _ true w (okSof_syn k s l wk p h)
  have hw : (onI wk == 1) = wk := by cases wk <;> rfl
  rw [h1, h2, h3, h4, h5, hw] at H
  exact H
def lastOk (q : Nat) (L : BitVec 64) : Prop := (q = 0 ∧ uv L = 1099511627776) ∨ (0 < q ∧ uv L % 8 = ((q : Int) - 1) % 5)
theorem last_at : lastOk 0 1099511627776#64 := .inl ⟨rfl, rfl⟩
theorem syn_small (k s l : Int) (wk : Bool) (p : Int) (h : okS k s l p = true) : (uv (synB k s l wk p) / (1048576 : Int) != 0) = false := by
  have hn := syn_num k s l wk p h
  obtain ⟨⟨k1, k2⟩, ⟨s1, s2⟩, ⟨l1, l2⟩, p1, p2⟩ := okS_of h
  have o1 : 0 ≤ onI wk ∧ onI wk ≤ 1 := by cases wk <;> decide
  rw [hn, bne_eq_false_iff_eq]
  omega
theorem last_ne (q : Nat) (L : BitVec 64) (s l : Int) (wk : Bool) (p : Int) (h : okS ((q : Int) % 5) s l p = true) (hL : lastOk q L) : (synB ((q : Int) % 5) s l wk p == L) = false := by
  have hn := syn_num _ s l wk p h
  obtain ⟨⟨k1, k2⟩, ⟨s1, s2⟩, ⟨l1, l2⟩, p1, p2⟩ := okS_of h
  have o1 : 0 ≤ onI wk ∧ onI wk ≤ 1 := by cases wk <;> decide
  rw [← uv_beq, beq_eq_false_iff_ne]
  intro e
  rw [hn] at e
  rcases hL with ⟨h0, h1⟩ | ⟨h0, h1⟩
  · omega
  · omega
theorem last_next (q : Nat) (s l : Int) (wk : Bool) (p : Int) (h : okS ((q : Int) % 5) s l p = true) : lastOk (q + 1) (synB ((q : Int) % 5) s l wk p) := by
  have hn := syn_num _ s l wk p h
  obtain ⟨⟨k1, k2⟩, ⟨s1, s2⟩, ⟨l1, l2⟩, p1, p2⟩ := okS_of h
  have o1 : 0 ≤ onI wk ∧ onI wk ≤ 1 := by cases wk <;> decide
  refine .inr ⟨by omega, ?_⟩
  rw [hn]
  omega
theorem ok_round (q : Nat) (p : Int) (hp : 0 ≤ p ∧ p < 4096) : okS ((q : Int) % 5) ((q : Int) / 5 % 3) ((q : Int) / 15 % 4) p = true := by
  unfold okS
  rw [btw_yes (by omega) (by omega), btw_yes (by omega) (by omega), btw_yes (by omega) (by omega), btw_yes (by omega) (by omega)]
  rfl

set_option maxRecDepth 100000 in
set_option maxHeartbeats 16000000 in
theorem sback_walk (pa : Option Addr) (b off len cap : Nat) (w : World) (_hp : 0 < len → pa = some ⟨b, off, none⟩)
    (_hc : ∀ i, i < len → ∃ k s l wk p x, AskAt w b (off + i * 6) k s l wk p x) :
    Calls Try.prog 6 #[.slice pa len cap] w fun e w' => e = .returned (.bool true) ∧ Below w.heap.size w w' := by
  go_enter Try.func6, Try.ntmps6
  go_wp2
  go_loopw [3, 4] (fun v i wr => ∃ (k : Nat) (L : BitVec 64), k ≤ 160 ∧ i = .int .i64 k ∧ v = .int .u64 (uv L) ∧ (Below w.heap.size w wr ∧ w.heap.size ≤ wr.heap.size) ∧ Hid (lastOk k L)) (fun _ i _ => 160 - (intOf i).toNat)
  case atStart => exact ⟨0, 1099511627776#64, Nat.zero_le _, rfl, rfl, ⟨Below.refl _ _, Nat.le_refl _⟩, Lib.hid last_at⟩
  case round =>
    obtain ⟨q, L, hq, rfl, rfl, ⟨hB, hz⟩, HL⟩ := hrel
    have k0 : (0 : Int) ≤ (q : Int) := Int.natCast_nonneg _
    by_cases hlt : q < 160
    · have k1 : (q : Int) < 160 := by omega
      go_wp2_with fail
      refine (within_eq _ _ _ (by omega) (by omega)).mono ?_
      rintro e w1 ⟨rfl, rfl⟩
      have HP := Lib.hid (ok_round q _ (within_bd (wrap64 (wrap64 ((len : Int) * 37) + (q : Int))) 4096 (by omega)))
      go_wp2_with fail
      generalize withinI (wrap64 (wrap64 ((len : Int) * 37) + (q : Int))) 4096 = P at *
      generalize ((q : Int) / 60 % 2 == 1) = wk at *
      refine (sword _ _ _ _ _ true _ HP.out).mono ?_
      rintro e w1 ⟨rfl, hb1⟩
      have B1 := (Blk.new wr _ _).next hb1
      have s1 := below_new hB hz hb1
      clear hb1 hB hz
      go_wp2_with fail
      refine (sof_word _ _ _ _ _ _ HP.out).mono ?_
      rintro e w2 ⟨rfl, hb2⟩
      have B2 := B1.next hb2
      have s2 := below_next s1.1 s1.2 hb2
      clear hb2 B1 s1
      have bl := B2.lt
      have f0 := B2.cell 0
      have f1 := B2.cell 1
      have f2 := B2.cell 2
      have f3 := B2.cell 3
      have f4 := B2.cell 4
      have gq := guardFault
      have ns := neq_same
      have n1 := syn_small _ _ _ wk _ HP.out
      have n2 := last_ne q L _ _ wk _ HP.out HL.out
      clear B2
      go_wp2_with (go_at_call 21; refine (num_any _ _).mono ?_; rintro e w7 ⟨rfl, rfl⟩)
      go_roundw
      case rel => exact ⟨q + 1, _, by omega, by go_num, rfl, ⟨s2.1.alloc s2.2 _, by have := s2.2; simp; omega⟩, Lib.hid (last_next q _ _ wk _ HP.out)⟩
      case measure => simp [intOf]; omega
    · have hq160 : q = 160 := by omega
      subst hq160
      go_wp2_with (go_at_call 22; refine (wakes_1 _).mono ?_; rintro e w1 ⟨rfl, hb1⟩)
      go_ret
      exact ⟨rfl, hB.trans (hb1.mono hz)⟩
end Go.Proofs.Ytfialajiaphciaa.law8
