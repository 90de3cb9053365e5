/- The contract of syn.Of. -/
import Derived.Test.YtfialajiaphciaaSw
import Derived.Test.YtfialajiaphciaaBlk
namespace Go.Proofs.Ytfialajiaphciaa
open Go.RowKit
attribute [local go_sem] uv_beq uv_bne sv_w64

/-- the numbers that have been got -/
def gotA (x : BitVec 64) (q : Nat) : Array Value :=
  #[.int .i64 (if 0 < q then sv (getB x 0 3) else 0), .int .i64 (if 1 < q then sv (getB x 3 2) else 0), .int .i64 (if 2 < q then sv (getB x 5 2) else 0), .int .i64 (if 3 < q then sv (getB x 7 1) else 0), .int .i64 (if 4 < q then sv (getB x 8 12) else 0)]
theorem got_step {x : BitVec 64} {q : Nat} {a n m y : Int} (h : (partsL 0 0 0 false 0)[q]? = some (a, n, m, y)) : (gotA x q).setIfInBounds q (.int .i64 (sv (getB x a n))) = gotA x (q + 1) := by
  match q, h with
  | 0, h => simp [partsL] at h; obtain ⟨rfl, rfl, rfl, rfl⟩ := h; simp [gotA]
  | 1, h => simp [partsL] at h; obtain ⟨rfl, rfl, rfl, rfl⟩ := h; simp [gotA]
  | 2, h => simp [partsL] at h; obtain ⟨rfl, rfl, rfl, rfl⟩ := h; simp [gotA]
  | 3, h => simp [partsL] at h; obtain ⟨rfl, rfl, rfl, rfl⟩ := h; simp [gotA]
  | 4, h => simp [partsL] at h; obtain ⟨rfl, rfl, rfl, rfl⟩ := h; simp [gotA]
  | q + 5, h => simp [partsL] at h
theorem parts_fit {q : Nat} {a n m y : Int} (h : (partsL 0 0 0 false 0)[q]? = some (a, n, m, y)) : fitsB a n = true := by
  match q, h with
  | 0, h => simp [partsL] at h; obtain ⟨rfl, rfl, rfl, rfl⟩ := h; decide
  | 1, h => simp [partsL] at h; obtain ⟨rfl, rfl, rfl, rfl⟩ := h; decide
  | 2, h => simp [partsL] at h; obtain ⟨rfl, rfl, rfl, rfl⟩ := h; decide
  | 3, h => simp [partsL] at h; obtain ⟨rfl, rfl, rfl, rfl⟩ := h; decide
  | 4, h => simp [partsL] at h; obtain ⟨rfl, rfl, rfl, rfl⟩ := h; decide
  | q + 5, h => simp [partsL] at h
theorem got_cell (x : BitVec 64) (q : Nat) (hq : q < 5) : ∃ v, (gotA x q)[q]? = some v := by
  match q, hq with
  | 0, _ => exact ⟨_, rfl⟩
  | 1, _ => exact ⟨_, rfl⟩
  | 2, _ => exact ⟨_, rfl⟩
  | 3, _ => exact ⟨_, rfl⟩
  | 4, _ => exact ⟨_, rfl⟩

theorem partsAt_later {w w1 : World} {g : Nat} {ps : List (Int × Int × Int × Int)} (h : PartsAt w g ps) (hb : Below w.heap.size w w1) : PartsAt w1 g ps := fun j a n m x hj => by
  obtain ⟨h0, h1, h2, h3, h4⟩ := h j a n m x hj
  exact ⟨cell_later hb h0, cell_later hb h1, cell_later hb h2, cell_later hb h3, cell_later hb h4⟩
theorem partsAt_set {w : World} {g k : Nat} {ps : List (Int × Int × Int × Int)} (h : PartsAt w g ps) (hk : k ≠ g) (i : Nat) (v : Value) : PartsAt (w.setCell ⟨k, i, none⟩ v) g ps := fun j a n m x hj => by
  obtain ⟨h0, h1, h2, h3, h4⟩ := h j a n m x hj
  have ne : ∀ o, (w.setCell ⟨k, i, none⟩ v).cell? ⟨g, o, none⟩ = w.cell? ⟨g, o, none⟩ := fun o => World.cell?_setCell_other _ _ _ _ (fun e => hk (by injection e))
  exact ⟨(ne _).trans h0, (ne _).trans h1, (ne _).trans h2, (ne _).trans h3, (ne _).trans h4⟩

def okSof (x : BitVec 64) : Bool := okS (partI x 0 3) (partI x 3 2) (partI x 5 2) (partI x 8 12) && (synB (partI x 0 3) (partI x 3 2) (partI x 5 2) (partI x 7 1 == 1) (partI x 8 12) == x)
/-- what a round leaves -/
def OfAt (w : World) (x : BitVec 64) (g q : Nat) (wr : World) : Prop :=
  (Below w.heap.size w wr ∧ w.heap.size ≤ wr.heap.size) ∧ Blk wr w.heap.size #[.int .i64 0, .int .i64 0, .int .i64 0, .bool false, .int .i64 0] ∧ Blk wr (w.heap.size + 1) (gotA x q) ∧ w.heap.size + 1 < g ∧ g < wr.heap.size ∧ PartsAt wr g (partsL 0 0 0 false 0)
theorem ofAt_next {w wr w1 : World} {x : BitVec 64} {g q : Nat} (h : OfAt w x g q wr) (hb : Below wr.heap.size wr w1) : OfAt w x g q w1 := by
  obtain ⟨⟨h1, h2⟩, h3, h4, h5, h6, h7⟩ := h
  exact ⟨⟨h1.trans (hb.mono h2), by have := hb.size; omega⟩, h3.next hb, h4.next hb, h5, by have := hb.size; omega, partsAt_later h7 hb⟩
theorem ofAt_step {w wr : World} {x : BitVec 64} {g q : Nat} {a n m y : Int} (h : OfAt w x g q wr) (hq : (partsL 0 0 0 false 0)[q]? = some (a, n, m, y)) :
    OfAt w x g (q + 1) (wr.setCell ⟨w.heap.size + 1, q, none⟩ (.int .i64 (sv (getB x a n)))) := by
  obtain ⟨⟨h1, h2⟩, h3, h4, h5, h6, h7⟩ := h
  exact ⟨⟨h1.setCell (by simp) _, by simpa using h2⟩, h3.set_ne (by omega) _ _, by rw [← got_step hq]; exact h4.set _ _, h5, by simpa using h6, partsAt_set h7 (by omega) _ _⟩

theorem set_five {w w3 : World} {v0 v1 v2 v3 v4 : Value} (h : Below w.heap.size w w3) :
    Below w.heap.size w (((((w3.setCell ⟨w.heap.size, 0, none⟩ v0).setCell ⟨w.heap.size, 1, none⟩ v1).setCell ⟨w.heap.size, 2, none⟩ v2).setCell ⟨w.heap.size, 3, none⟩ v3).setCell ⟨w.heap.size, 4, none⟩ v4) :=
  ((((h.setCell (Nat.le_refl _) _).setCell (Nat.le_refl _) _).setCell (Nat.le_refl _) _).setCell (Nat.le_refl _) _).setCell (Nat.le_refl _) _
theorem sof_new (w : World) (x : BitVec 64) : Blk ((w.alloc (.cells #[.int .i64 0, .int .i64 0, .int .i64 0, .bool false, .int .i64 0] 43)).alloc (.cells #[.int .i64 0, .int .i64 0, .int .i64 0, .int .i64 0, .int .i64 0] 93)) (w.heap.size + 1) (gotA x 0) := by
  have h := Blk.new (w.alloc (.cells #[.int .i64 0, .int .i64 0, .int .i64 0, .bool false, .int .i64 0] 43)) (gotA x 0) 93
  rw [World.size_alloc] at h
  exact h

set_option maxRecDepth 100000 in
set_option maxHeartbeats 8000000 in
theorem sof (x : BitVec 64) (b : Bool) (w : World) (hb : okSof x = b) :
    Calls Try.prog 19 #[.int .u64 (uv x)] w fun e w' => e = .returned (.tuple #[.agg (if b then #[.int .i64 (partI x 0 3), .int .i64 (partI x 3 2), .int .i64 (partI x 5 2), .bool (partI x 7 1 == 1), .int .i64 (partI x 8 12)] else #[.int .i64 0, .int .i64 0, .int .i64 0, .bool false, .int .i64 0]), .int .i64 (if b then 0 else 9)]) ∧ Below w.heap.size w w' := by
  have HB := Lib.hid hb
  clear hb
  go_enter Try.func19, Try.ntmps19
  go_wp2_with (go_at_call 48; refine (parts_any _ _ _ false _ _).mono ?_; rintro e w2 ⟨g, rfl, hb2, hg1, hg2, hps⟩)
  have hstart : OfAt w x g 0 w2 := by
    have hz := hb2.size
    simp at hz hg1
    exact ⟨⟨(((Below.refl _ _).alloc (Nat.le_refl _) _).alloc (by simp) _).trans (hb2.mono (by simp; omega)), by omega⟩, ((Blk.new _ _ _).alloc _).next hb2, (sof_new w x).next hb2, by omega, hg2, hps⟩
  clear hb2 hg1 hg2 hps
  go_loopw [15] (fun i wr => ∃ q : Nat, q ≤ 5 ∧ i = .int .i64 q ∧ OfAt w x g q wr) (fun i _ => 5 - (intOf i).toNat)
  case atStart => exact ⟨0, by omega, rfl, hstart⟩
  case round =>
    clear hstart
    obtain ⟨q, hq, rfl, hO⟩ := hrel
    by_cases hlt : q < 5
    · obtain ⟨⟨a, n, m, y⟩, hqx⟩ : ∃ f, (partsL 0 0 0 false 0)[q]? = some f := ⟨_, List.getElem?_eq_getElem (by simpa [partsL] using hlt)⟩
      obtain ⟨d0, d1, d2, d3, d4⟩ := hO.2.2.2.2.2 q a n m y hqx
      have hgz := hO.2.2.2.2.1
      have HF := Lib.hid (parts_fit hqx)
      have HQ := Lib.hid hqx
      have HO := Lib.hid hO
      have q0 : (0 : Int) ≤ (q : Int) := Int.natCast_nonneg _
      have q1 : (q : Int) < 5 := by omega
      obtain ⟨v0, hv0⟩ := got_cell x q hlt
      have HV := Lib.hid hv0
      have hgz2 : w.heap.size + 1 < wr.heap.size := hO.2.2.1.lt
      clear hqx hO hv0
      go_wp2_with (go_at_call 45; refine (get_yes _ _ _ _ HF.out).mono ?_; rintro e w3 ⟨rfl, hb3⟩; have HO3 := Lib.hid (ofAt_next HO.out (((Below.refl _ _).alloc (Nat.le_refl _) _).trans (hb3.mono (by simp)))); have e0 := (HO3.out.2.2.1.cell q).trans HV.out; have e1 := HO3.out.2.2.1.frozen q; clear d0 d1 d2 d3 d4)
      go_roundw
      case rel => exact ⟨q + 1, by omega, by go_num, ofAt_step HO3.out HQ.out⟩
      case measure => simp [intOf]; omega
    · obtain rfl : q = 5 := by omega
      have s1 := hO.1
      have a0 := hO.2.1
      have n0 := hO.2.2.1
      clear hO
      have i0 : wr.cell? ⟨w.heap.size + 1, 0, none⟩ = some (.int .i64 (partI x 0 3)) := by rw [n0.cell, ← part_sv x 0 3 (by omega)]; rfl
      have i1 : wr.cell? ⟨w.heap.size + 1, 1, none⟩ = some (.int .i64 (partI x 3 2)) := by rw [n0.cell, ← part_sv x 3 2 (by omega)]; rfl
      have i2 : wr.cell? ⟨w.heap.size + 1, 2, none⟩ = some (.int .i64 (partI x 5 2)) := by rw [n0.cell, ← part_sv x 5 2 (by omega)]; rfl
      have i3 : wr.cell? ⟨w.heap.size + 1, 3, none⟩ = some (.int .i64 (partI x 7 1)) := by rw [n0.cell, ← part_sv x 7 1 (by omega)]; rfl
      have i4 : wr.cell? ⟨w.heap.size + 1, 4, none⟩ = some (.int .i64 (partI x 8 12)) := by rw [n0.cell, ← part_sv x 8 12 (by omega)]; rfl
      have hz0 := n0.lt
      have A0 := Lib.hid a0
      clear n0 a0
      rcases hK : okS (partI x 0 3) (partI x 3 2) (partI x 5 2) (partI x 8 12) with _ | _
      · obtain rfl : b = false := by rw [← HB.out]; unfold okSof; rw [hK]; rfl
        have HK := Lib.hid hK
        clear hK
        go_wp2_with (go_at_call 16; refine (sword _ _ _ _ _ false _ HK.out).mono ?_; rintro e w3 ⟨rfl, hb3⟩; have B3 := (A0.out.alloc _).next hb3; have c0 := B3.cell 0; have c1 := B3.cell 1; have c2 := B3.cell 2; have c3 := B3.cell 3; have c4 := B3.cell 4; have f0 := B3.frozen 0; have f1 := B3.frozen 1; have f2 := B3.frozen 2; have f3 := B3.frozen 3; have f4 := B3.frozen 4)
        refine bodyPost_ret (v := .tuple #[.agg #[.int .i64 0, .int .i64 0, .int .i64 0, .bool false, .int .i64 0], .int .i64 9]) (by simp [results, Try.results19, go_sem, c0, c1, c2, c3, c4]) rfl ⟨rfl, ?_⟩
        exact set_five (below_new s1.1 s1.2 hb3).1
      · have HK := Lib.hid hK
        have hO := HB.out
        unfold okSof at hO
        rw [hK, Bool.true_and] at hO
        have hOn : (synB (partI x 0 3) (partI x 3 2) (partI x 5 2) (partI x 7 1 == 1) (partI x 8 12) != x) = !b := by simp only [bne, hO]
        clear hK hO
        cases b
        · simp only [Bool.not_false] at hOn
          go_wp2_with (go_at_call 16; refine (sword _ _ _ _ _ true _ HK.out).mono ?_; rintro e w3 ⟨rfl, hb3⟩; have B3 := (A0.out.alloc _).next hb3; have c0 := B3.cell 0; have c1 := B3.cell 1; have c2 := B3.cell 2; have c3 := B3.cell 3; have c4 := B3.cell 4; have f0 := B3.frozen 0; have f1 := B3.frozen 1; have f2 := B3.frozen 2; have f3 := B3.frozen 3; have f4 := B3.frozen 4; have C3 := (Blk.new wr _ _).next hb3; have d0 := C3.cell 0; have d1 := C3.cell 1; have d2 := C3.cell 2; have d3 := C3.cell 3; have d4 := C3.cell 4)
          refine bodyPost_ret (v := .tuple #[.agg #[.int .i64 0, .int .i64 0, .int .i64 0, .bool false, .int .i64 0], .int .i64 9]) (by simp [results, Try.results19, go_sem, c0, c1, c2, c3, c4]) rfl ⟨rfl, ?_⟩
          exact set_five (below_new s1.1 s1.2 hb3).1
        · simp only [Bool.not_true] at hOn
          go_wp2_with (go_at_call 16; refine (sword _ _ _ _ _ true _ HK.out).mono ?_; rintro e w3 ⟨rfl, hb3⟩; have B3 := (A0.out.alloc _).next hb3; have c0 := B3.cell 0; have c1 := B3.cell 1; have c2 := B3.cell 2; have c3 := B3.cell 3; have c4 := B3.cell 4; have f0 := B3.frozen 0; have f1 := B3.frozen 1; have f2 := B3.frozen 2; have f3 := B3.frozen 3; have f4 := B3.frozen 4; have C3 := (Blk.new wr _ _).next hb3; have d0 := C3.cell 0; have d1 := C3.cell 1; have d2 := C3.cell 2; have d3 := C3.cell 3; have d4 := C3.cell 4)
          refine bodyPost_ret (v := .tuple #[.agg #[.int .i64 (partI x 0 3), .int .i64 (partI x 3 2), .int .i64 (partI x 5 2), .bool (partI x 7 1 == 1), .int .i64 (partI x 8 12)], .int .i64 0]) (by simp [results, Try.results19, go_sem, c0, c1, c2, c3, c4]) rfl ⟨rfl, ?_⟩
          exact set_five (below_new s1.1 s1.2 hb3).1
end Go.Proofs.Ytfialajiaphciaa
