/- The contract of syn.Word. -/
import Derived.Test.YtfialajiaphciaaSyn
namespace Go.Proofs.Ytfialajiaphciaa
open Go.RowKit

theorem take_fields {ps : List (Int × Int × Int × Int)} {q : Nat} {f : Int × Int × Int × Int} (h : ps[q]? = some f) : (ps.map fieldOf).take q ++ [fieldOf f] = (ps.map fieldOf).take (q + 1) := by
  rw [take_snoc (f := fieldOf f) (by simp [h])]
theorem all_parts {ps : List (Int × Int × Int × Int)} {q : Nat} {f : Int × Int × Int × Int} (h : ps[q]? = some f) (ha : (ps.take q).all partOk = true) (hf : partOk f = true) : (ps.take (q + 1)).all partOk = true := by
  rw [take_snoc h, List.all_append, ha]; simp [hf]
theorem all_not {ps : List (Int × Int × Int × Int)} {q : Nat} {f : Int × Int × Int × Int} (h : ps[q]? = some f) (hf : partOk f = false) : ps.all partOk = false := by
  rw [Bool.eq_false_iff]
  intro hall
  rw [List.all_eq_true] at hall
  have := hall _ (List.mem_of_getElem? h)
  rw [hf] at this; cases this

set_option maxRecDepth 100000 in
set_option maxHeartbeats 8000000 in
theorem sword (k s l : Int) (wk : Bool) (p : Int) (b : Bool) (w : World) (hb : okS k s l p = b) :
    Calls Try.prog 16 #[.agg #[.int .i64 k, .int .i64 s, .int .i64 l, .bool wk, .int .i64 p]] w fun e w' => e = .returned (.tuple #[.int .u64 (uv (if b then synB k s l wk p else 0#64)), .int .i64 (if b then 0 else 1)]) ∧ Below w.heap.size w w' := by
  have HO := Lib.hid hb
  clear hb
  go_enter Try.func16, Try.ntmps16
  go_wp2_with (go_at_call 48; refine (parts_any _ _ _ _ _ _).mono ?_; rintro e w2 ⟨g, rfl, hb2, hg1, hg2, hps⟩; have HP := Lib.hid hps; have HB := Lib.hid (((Below.refl w.heap.size w).alloc (Nat.le_refl _) _).trans (hb2.mono (by simp))); have hz : w.heap.size ≤ w2.heap.size := HB.out.size; clear hps hb2)
  go_loopw [4, 10] (fun v i wr => ∃ q : Nat, q ≤ 5 ∧ i = .int .i64 q ∧ Below w2.heap.size w2 wr ∧ wr.ownsRow w2.heap.size 84 3 v q (newsOf (((partsL k s l wk p).map fieldOf).take q)) ∧ Hid (((partsL k s l wk p).take q).all partOk = true)) (fun _ i _ => 5 - (intOf i).toNat)
  case atStart => exact ⟨0, by omega, rfl, Below.refl _ _, World.ownsRow_nil _ _ _ _, Lib.hid rfl⟩
  case round =>
    obtain ⟨q, hq, rfl, hB2, hown, hok⟩ := hrel
    by_cases hlt : q < 5
    · obtain ⟨⟨a, n, m, x⟩, hqx⟩ : ∃ f, (partsL k s l wk p)[q]? = some f := ⟨_, List.getElem?_eq_getElem (by simpa [partsL] using hlt)⟩
      obtain ⟨e0, e1, e2, e3, e4⟩ := HP.out q a n m x hqx
      have d0 := (hB2.cell (p := ⟨g, q * 5, none⟩) hg2).trans e0
      have d1 := (hB2.cell (p := ⟨g, q * 5 + 1, none⟩) hg2).trans e1
      have d2 := (hB2.cell (p := ⟨g, q * 5 + 2, none⟩) hg2).trans e2
      have d3 := (hB2.cell (p := ⟨g, q * 5 + 3, none⟩) hg2).trans e3
      have d4 := (hB2.cell (p := ⟨g, q * 5 + 4, none⟩) hg2).trans e4
      clear e0 e1 e2 e3 e4
      have q0 : (0 : Int) ≤ (q : Int) := Int.natCast_nonneg _
      have q1 : (q : Int) < 5 := by omega
      have HQ := Lib.hid hqx
      have HOWN := Lib.hid hown
      have ux := uv_ofInt x
      have hzr : w2.heap.size ≤ wr.heap.size := hB2.size
      clear hqx hown
      rcases hx : partOk (a, n, m, x) with _ | _
      · have hx' : x < 0 ∨ (0 ≤ x ∧ m < x) := btw_of_no hx
        have hbf : b = false := by
          rw [← HO.out, ← parts_ok k s l wk p]
          exact all_not HQ.out hx
        subst hbf
        rcases hx' with h1 | ⟨h1, h2⟩
        all_goals
          go_wp2_with fail
          go_ret2
          exact ⟨rfl, HB.out.trans ((hB2.alloc hzr _).mono hz)⟩
      · obtain ⟨h1, h2⟩ : 0 ≤ x ∧ x ≤ m := btw_of_yes hx
        have HX := Lib.hid hx
        clear hx
        go_wp2_with (at_builtin; refine append_one rfl _ _ rfl w2.heap.size _ q (((partsL k s l wk p).map fieldOf).take q) rfl ?ho _ _ rfl (a, n, BitVec.ofInt 64 x) ?h0 ?h1 ?h2 ?hn ?hbs ?hh)
        case ho => exact (HOWN.out.alloc _).alloc _
        case hn => omega
        case hbs => simp; omega
        case hh =>
          intro v' w' hown' hgr
          have hB3 : Below w2.heap.size w2 w' := ((hB2.alloc hzr _).alloc (by simp; omega) _).grown hgr (by simp; omega) (fun k hk => (HOWN.out.lt k hk).1)
          have hown3 : w'.ownsRow w2.heap.size 84 3 v' (q + 1) (newsOf (((partsL k s l wk p).map fieldOf).take (q + 1))) := by
            rw [← take_fields HQ.out]; exact hown'
          have HOWN3 := Lib.hid hown3
          have HB3 := Lib.hid hB3
          clear hown' hown3 hB3 hgr d0 d1 d2 d3 d4
          go_wp2_with fail
          go_roundw
          case rel => exact ⟨q + 1, by omega, by go_num, HB3.out, HOWN3.out, Lib.hid (all_parts HQ.out hok.out HX.out)⟩
          case measure => simp [intOf]; omega
    · obtain rfl : q = 5 := by omega
      have hall : okS k s l p = true := by rw [← parts_ok k s l wk p]; have := hok.out; rwa [List.take_of_length_le (by simp [partsL])] at this
      obtain rfl : b = true := by rw [← HO.out, hall]
      obtain ⟨T, hj⟩ := join_syn k s l wk p hall
      rw [List.take_of_length_le (by simp [partsL]), parts_fields] at hown
      obtain ⟨gg, cap, rfl, hF⟩ := own_fields hown (by rintro rfl; rcases hown.2 with h | ⟨_, _, _, h, _⟩; cases h.2; cases h)
      have HF := Lib.hid hF
      have HJ := Lib.hid hj
      clear hF hj hown hall
      go_wp2_with (go_at_call 39; refine (join_any (some ⟨gg, 0, none⟩) 5 cap (synL k s l wk p) _ T 0 _ rfl (by unfold maxLen; omega) HF.out HJ.out).mono ?_; rintro e w3 ⟨rfl, hb3⟩)
      go_ret2
      exact ⟨rfl, (HB.out.trans (hB2.mono hz)).trans (hb3.mono (by have := hB2.size; omega))⟩
end Go.Proofs.Ytfialajiaphciaa
