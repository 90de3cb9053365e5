/- WordJoins: the walk. -/
import Derived.Test.YtanndkcelgijoaaL1a
import Derived.Test.YtanndkcelgijoaaL1o
import Derived.Test.YtanndkcelgijoaaH
import Derived.Test.YtanndkcelgijoaaRb
import Derived.Deep.AppendSrc
import Derived.Laws.AppendOwn
import Derived.Laws.AppendOwnNone
import Derived.Laws.StructEq
namespace Go.Proofs.Ytanndkcelgijoaa
open Go.RowKit
attribute [local go_sem] uv_and uv_or uv_xor uv_andNot uv_shr uv_shl uv_add uv_sub uv_neg uv_beq uv_beq0 uv_beq1 uv_bne0 u64_signed uv_not sv_i64 sv_shr uv_sv ones_shr

theorem heavy_any (V : BitVec 64) (p : Option Addr) (l c : Nat) (A N : Int) (w : World) (b : Bool) (hb : decide ((200 : Int) < l) = b) :
    Calls Try.prog 14 #[.agg #[.int .u64 (uv V), .slice p l c, .int .i64 A, .int .i64 N]] w fun e w' => e = .returned (.bool b) ∧ Below w.heap.size w w' := by
  go_enter Try.func14, Try.ntmps14
  go_wp2
  go_ret
  exact ⟨rfl, (Below.refl _ _).alloc (Nat.le_refl _) _⟩

theorem info39 : (Try.prog.info? 39).map (fun i => (i.zero, i.size, i.bytes)) = some (some (.agg #[.int .i64 0, .int .i64 0, .int .u64 0]), 3, 24) := by kernel_rfl
theorem stoodField : Try.prog.stoodInHeld 39 = false := by kernel_rfl
theorem guardField : Try.prog.eqGuardType Try.prog.depth 39 = false := by kernel_rfl
theorem neq_field (a n : Int) (x : BitVec 64) (w : World) : (binOp .neq 39 (.agg #[.int .i64 a, .int .i64 n, .int .u64 (uv x)]) (.agg #[.int .i64 a, .int .i64 n, .int .u64 (uv x)])).run Try.prog w = .ok (.bool false) w := by
  have h := stoodField
  have k := @Try.underlying39
  have k3 := @Try.underlying3
  have k4 := @Try.underlying23
  go_simp
theorem fieldsL_of {w : World} {p : Option Addr} {l : Nat} (h : FieldsAt w p l) : ∃ fs, fs.length = l ∧ FieldsL w p fs := by
  obtain ⟨fb, fo, hp, hf⟩ := h
  obtain ⟨fs, hl, hfs⟩ := exists_list (P := fun j (f : Int × Int × BitVec 64) => FieldAt w fb (fo + j * 3) f.1 f.2.1 f.2.2) l (fun j hj => by
    obtain ⟨a, n, x, h⟩ := hf j hj
    exact ⟨(a, n, x), h⟩)
  exact ⟨fs, hl, fb, fo, by rw [hl]; exact hp, fun j a n x hj => hfs j (a, n, x) hj⟩
theorem fields_later {w wr : World} {p : Option Addr} {fs : List (Int × Int × BitVec 64)} (h : FieldsL w p fs) (hb : Below w.heap.size w wr) : FieldsL wr p fs := by
  obtain ⟨fb, fo, hp, hf⟩ := h
  exact ⟨fb, fo, hp, fun j a n x hx => ⟨cell_later hb (hf j a n x hx).1, cell_later hb (hf j a n x hx).2.1, cell_later hb (hf j a n x hx).2.2⟩⟩
/-- the cells of fields -/
def newsOf : List (Int × Int × BitVec 64) → List Value
  | [] => []
  | f :: fs => .int .i64 f.1 :: .int .i64 f.2.1 :: .int .u64 (uv f.2.2) :: newsOf fs
theorem newsOf_length (fs : List (Int × Int × BitVec 64)) : (newsOf fs).length = fs.length * 3 := by
  induction fs with
  | nil => rfl
  | cons f fs ih => simp [newsOf, ih]; omega
theorem newsOf_get (fs : List (Int × Int × BitVec 64)) (j : Nat) (a n : Int) (x : BitVec 64) (h : fs[j]? = some (a, n, x)) :
    (newsOf fs)[j * 3]? = some (.int .i64 a) ∧ (newsOf fs)[j * 3 + 1]? = some (.int .i64 n) ∧ (newsOf fs)[j * 3 + 2]? = some (.int .u64 (uv x)) := by
  induction fs generalizing j with
  | nil => simp at h
  | cons f fs ih =>
    cases j with
    | zero => simp at h; subst h; simp [newsOf]
    | succ j =>
      simp at h
      obtain ⟨h1, h2, h3⟩ := ih j h
      have e : (j + 1) * 3 = j * 3 + 3 := by omega
      rw [e]
      exact ⟨by simpa [newsOf] using h1, by simpa [newsOf] using h2, by simpa [newsOf] using h3⟩
theorem newsOf_one (fs : List (Int × Int × BitVec 64)) : ∀ u ∈ newsOf fs, u.oneCell' = true := by
  induction fs with
  | nil => intro u hu; cases hu
  | cons f fs ih =>
    intro u hu
    simp only [newsOf, List.mem_cons] at hu
    rcases hu with rfl | rfl | rfl | hu
    · rfl
    · rfl
    · rfl
    · exact ih u hu
theorem newsOf_cells {w : World} {fb fo : Nat} {fs : List (Int × Int × BitVec 64)} (hf : ∀ j a n x, fs[j]? = some (a, n, x) → w.cell? ⟨fb, fo + j * 3, none⟩ = some (.int .i64 a) ∧ w.cell? ⟨fb, fo + j * 3 + 1, none⟩ = some (.int .i64 n) ∧ w.cell? ⟨fb, fo + j * 3 + 2, none⟩ = some (.int .u64 (uv x))) :
    ∀ (j : Nat) u, (newsOf fs)[j]? = some u → w.cell? ((⟨fb, fo, none⟩ : Addr).add j) = some u := by
  intro j u hu
  rw [Go.WideShapes.add_plain]
  have hj : j < fs.length * 3 := by
    rw [← newsOf_length]
    exact (List.getElem?_eq_some_iff.1 hu).1
  obtain ⟨⟨a, n, x⟩, hq⟩ : ∃ f, fs[j / 3]? = some f := ⟨_, List.getElem?_eq_getElem (by omega)⟩
  obtain ⟨h1, h2, h3⟩ := newsOf_get fs (j / 3) a n x hq
  obtain ⟨g1, g2, g3⟩ := hf (j / 3) a n x hq
  have hc : j = j / 3 * 3 ∨ j = j / 3 * 3 + 1 ∨ j = j / 3 * 3 + 2 := by omega
  clear hq hj
  generalize j / 3 = q at *
  rcases hc with rfl | rfl | rfl
  · rw [h1] at hu; rw [g1, hu]
  · rw [h2] at hu; rw [← Nat.add_assoc, g2, hu]
  · rw [h3] at hu; rw [← Nat.add_assoc, g3, hu]
theorem fieldsL_at {w : World} {p : Option Addr} {fs : List (Int × Int × BitVec 64)} (h : FieldsL w p fs) {j : Nat} {a n : Int} {x : BitVec 64} (hj : fs[j]? = some (a, n, x)) :
    ∃ fb fo, p = some ⟨fb, fo, none⟩ ∧ w.cell? ⟨fb, fo + j * 3, none⟩ = some (.int .i64 a) ∧ w.cell? ⟨fb, fo + j * 3 + 1, none⟩ = some (.int .i64 n) ∧ w.cell? ⟨fb, fo + j * 3 + 2, none⟩ = some (.int .u64 (uv x)) := by
  obtain ⟨fb, fo, hp, hf⟩ := h
  have hl := (List.getElem?_eq_some_iff.1 hj).1
  exact ⟨fb, fo, hp (by omega), hf j a n x hj⟩
theorem fieldsL_zero {w : World} {g : Nat} {fs : List (Int × Int × BitVec 64)} (h : FieldsL w (some ⟨g, 0, none⟩) fs) {j : Nat} {a n : Int} {x : BitVec 64} (hj : fs[j]? = some (a, n, x)) :
    w.cell? ⟨g, j * 3, none⟩ = some (.int .i64 a) ∧ w.cell? ⟨g, j * 3 + 1, none⟩ = some (.int .i64 n) ∧ w.cell? ⟨g, j * 3 + 2, none⟩ = some (.int .u64 (uv x)) := by
  obtain ⟨fb, fo, hp, c⟩ := fieldsL_at h hj
  injection hp with hp
  injection hp with h1 h2 h3
  subst h1 h2
  simpa using c

theorem none_fields (w : World) : FieldsL w none [] := ⟨0, 0, fun h => by simp at h, fun j a n x hj => by simp at hj⟩
theorem joinF_nil : joinF [] = (0#64, 0#64, 0) := rfl
theorem three_of {fs : List (Int × Int × BitVec 64)} (h : fs.length = 3) : ∃ a0 n0 x0 a1 n1 x1 a2 n2 x2, fs = [(a0, n0, x0), (a1, n1, x1), (a2, n2, x2)] := by
  match fs, h with
  | [(a0, n0, x0), (a1, n1, x1), (a2, n2, x2)], _ => exact ⟨_, _, _, _, _, _, _, _, _, rfl⟩
theorem nine_of {w : World} {gg : Nat} {a0 n0 : Int} {x0 : BitVec 64} {a1 n1 : Int} {x1 : BitVec 64} {a2 n2 : Int} {x2 : BitVec 64} (h : FieldsL w (some ⟨gg, 0, none⟩) [(a0, n0, x0), (a1, n1, x1), (a2, n2, x2)]) :
    w.cell? ⟨gg, 0, none⟩ = some (.int .i64 a0) ∧ w.cell? ⟨gg, 1, none⟩ = some (.int .i64 n0) ∧ w.cell? ⟨gg, 2, none⟩ = some (.int .u64 (uv x0)) ∧ w.cell? ⟨gg, 3, none⟩ = some (.int .i64 a1) ∧ w.cell? ⟨gg, 4, none⟩ = some (.int .i64 n1) ∧ w.cell? ⟨gg, 5, none⟩ = some (.int .u64 (uv x1)) ∧ w.cell? ⟨gg, 6, none⟩ = some (.int .i64 a2) ∧ w.cell? ⟨gg, 7, none⟩ = some (.int .i64 n2) ∧ w.cell? ⟨gg, 8, none⟩ = some (.int .u64 (uv x2)) := by
  obtain ⟨c0, c1, c2⟩ := fieldsL_zero h (j := 0) rfl
  obtain ⟨c3, c4, c5⟩ := fieldsL_zero h (j := 1) rfl
  obtain ⟨c6, c7, c8⟩ := fieldsL_zero h (j := 2) rfl
  exact ⟨c0, c1, c2, c3, c4, c5, c6, c7, c8⟩
theorem nine_later {W w2 : World} {a b c d e f g h i : Addr} {v1 v2 v3 v4 v5 v6 v7 v8 v9 : Value} (hb : Below W.heap.size W w2)
    (q : W.cell? a = some v1 ∧ W.cell? b = some v2 ∧ W.cell? c = some v3 ∧ W.cell? d = some v4 ∧ W.cell? e = some v5 ∧ W.cell? f = some v6 ∧ W.cell? g = some v7 ∧ W.cell? h = some v8 ∧ W.cell? i = some v9) :
    w2.cell? a = some v1 ∧ w2.cell? b = some v2 ∧ w2.cell? c = some v3 ∧ w2.cell? d = some v4 ∧ w2.cell? e = some v5 ∧ w2.cell? f = some v6 ∧ w2.cell? g = some v7 ∧ w2.cell? h = some v8 ∧ w2.cell? i = some v9 := by
  obtain ⟨q1, q2, q3, q4, q5, q6, q7, q8, q9⟩ := q
  exact ⟨cell_later hb q1, cell_later hb q2, cell_later hb q3, cell_later hb q4, cell_later hb q5, cell_later hb q6, cell_later hb q7, cell_later hb q8, cell_later hb q9⟩
theorem made3 (w : World) (a0 n0 : Int) (x0 : BitVec 64) (a1 n1 : Int) (x1 : BitVec 64) (a2 n2 : Int) (x2 : BitVec 64) :
    FieldsL (w.alloc (.cells #[.int .i64 a0, .int .i64 n0, .int .u64 (uv x0), .int .i64 a1, .int .i64 n1, .int .u64 (uv x1), .int .i64 a2, .int .i64 n2, .int .u64 (uv x2)] 39)) (some ⟨w.heap.size, 0, none⟩) [(a0, n0, x0), (a1, n1, x1), (a2, n2, x2)] := by
  refine ⟨w.heap.size, 0, fun _ => rfl, fun j a n x hj => ?_⟩
  match j with
  | 0 => simp at hj; obtain ⟨rfl, rfl, rfl⟩ := hj; exact ⟨(cell_of_row _ _ _ _ _ (0, 0) (heap_alloc_new w _)).trans rfl, (cell_of_row _ _ _ _ _ (0, 0) (heap_alloc_new w _)).trans rfl, (cell_of_row _ _ _ _ _ (0, 0) (heap_alloc_new w _)).trans rfl⟩
  | 1 => simp at hj; obtain ⟨rfl, rfl, rfl⟩ := hj; exact ⟨(cell_of_row _ _ _ _ _ (0, 0) (heap_alloc_new w _)).trans rfl, (cell_of_row _ _ _ _ _ (0, 0) (heap_alloc_new w _)).trans rfl, (cell_of_row _ _ _ _ _ (0, 0) (heap_alloc_new w _)).trans rfl⟩
  | 2 => simp at hj; obtain ⟨rfl, rfl, rfl⟩ := hj; exact ⟨(cell_of_row _ _ _ _ _ (0, 0) (heap_alloc_new w _)).trans rfl, (cell_of_row _ _ _ _ _ (0, 0) (heap_alloc_new w _)).trans rfl, (cell_of_row _ _ _ _ _ (0, 0) (heap_alloc_new w _)).trans rfl⟩
  | j + 3 => simp at hj
theorem drew_fields {w : World} {p : Option Addr} {fs : List (Int × Int × BitVec 64)} (h : FieldsL w p fs) : FieldsL w.drew p fs := fields_later h (Below.refl _ _).drew
/-- what an owned row of them is -/
theorem own_fields {w : World} {base n : Nat} {e : TypeId} {v : Value} {fs : List (Int × Int × BitVec 64)} (h : w.ownsRow base e 3 v n (newsOf fs)) (hv : v ≠ .slice none 0 0) :
    ∃ g cap, v = .slice (some ⟨g, 0, none⟩) n cap ∧ FieldsL w (some ⟨g, 0, none⟩) fs := by
  have hc := fun g hg => h.cells (g := g) hg
  obtain ⟨hl, h0 | ⟨g, cap, cur, rfl, _⟩⟩ := h
  · exact absurd h0.1 hv
  · refine ⟨g, cap, rfl, g, 0, fun _ => rfl, fun j a n x hj => ?_⟩
    obtain ⟨h1, h2, h3⟩ := newsOf_get fs j a n x hj
    have c := hc g rfl
    have c1 := c _ _ h1
    have c2 := c _ _ h2
    have c3 := c _ _ h3
    rw [Go.WideShapes.add_plain] at c1 c2 c3
    exact ⟨c1, by rw [Nat.add_assoc]; exact c2, by rw [Nat.add_assoc]; exact c3⟩

/-- append onto the empty row that the call has made -/
theorem append_fields {w : World} {ops : Array Oper} {rest : List Oper} {o : Oper} {a : Act} {Q : Exit → Act → World → Prop} (hgd : o.guard = none) (s x : Operand)
    (ho : o.op = .call { callee := .builtin .append, args := #[s, x], argTypes := #[24, 24] }) (base g : Nat) (hs : a.eval s = .slice (some ⟨g, 0, none⟩) 0 0)
    (hown : w.ownsRow base 39 3 (.slice (some ⟨g, 0, none⟩) 0 0) 0 []) (p : Option Addr) (l c : Nat) (fs : List (Int × Int × BitVec 64)) (hx : a.eval x = .slice p l c)
    (hl : fs.length = l) (hfs : FieldsL w p fs) (h200 : l ≤ 200) (hbase : base ≤ w.heap.size)
    (h : ∀ gg cap w', FieldsL w' (some ⟨gg, 0, none⟩) fs → w.grownBy w' (some g) → wpList Try.prog ops Q rest (a.put o.dst (.slice (some ⟨gg, 0, none⟩) l cap)) w') : wpList Try.prog ops Q (o :: rest) a w := by
  have hI := info39
  obtain ⟨i, hi, hz⟩ : ∃ i, Try.prog.info? 39 = some i ∧ (i.zero, i.size, i.bytes) = (some (.agg #[.int .i64 0, .int .i64 0, .int .u64 0]), 3, 24) := by
    cases hc : Try.prog.info? 39 with
    | none => rw [hc] at hI; cases hI
    | some i => rw [hc] at hI; exact ⟨i, rfl, by simpa using hI⟩
  injection hz with hz0 hz
  injection hz with hz1 hz2
  have ht := @Try.underlying24
  obtain ⟨fb, fo, hp, hf⟩ := id hfs
  rcases p with _ | ad
  · have h0 : l = 0 := by
      rcases Nat.eq_zero_or_pos l with h | h
      · exact h
      · rw [hl] at hp; cases hp h
    subst h0
    have h1 : fs = [] := List.eq_nil_of_length_eq_zero hl
    subst h1
    refine wpList_plain hgd fun K hK => ?_
    have hrun := run_append_room_src (P := Try.prog) w _ _ o.type _ i ht hi g 0 0 0 (.slice none 0 c) 0 [] (Src.ofNil w ht c) (Nat.le_refl _) (fun j hj => by simp at hj) (fun j hj => by simp at hj)
    unfold Oper.wp
    simp [execOp, ho, resolve, invoke, builtin, hs, hx, hrun, Result.andThen, World.setCells]
    refine hK _ _ (h g 0 w ⟨g, 0, fun _ => rfl, fun j a n x hj => by simp at hj⟩ ⟨rfl, rfl, rfl, Nat.le_refl _, fun _ _ _ => rfl⟩)
  · by_cases h0 : l = 0
    · subst h0
      have h1 : fs = [] := List.eq_nil_of_length_eq_zero hl
      subst h1
      refine wpList_append_own w hgd s x _ ho base _ i _ 3 24 ht hi hz0 hz1 hz2 rfl (by decide) _ 0 [] hs hown ad 0 c [] hx rfl (fun j u hu => by simp at hu) (fun u hu => by simp at hu) (by decide) (by decide) hbase ?_
      intro v' w' hown' hgrow hnil
      have hne : v' ≠ .slice none 0 0 := fun e => by have := (hnil.1 e).1; cases this
      obtain ⟨gg, cap, rfl, hF⟩ := own_fields (fs := []) hown' hne
      exact h gg cap w' hF hgrow
    · obtain rfl : ad = ⟨fb, fo, none⟩ := by
        have := hp (by omega)
        injection this
      refine wpList_append_own w hgd s x _ ho base _ i _ 3 24 ht hi hz0 hz1 hz2 rfl (by decide) _ 0 [] hs hown ⟨fb, fo, none⟩ l c (newsOf fs) hx (by rw [newsOf_length, hl]) (newsOf_cells hf) (newsOf_one fs) (by unfold maxLen; omega) (by omega) hbase ?_
      intro v' w' hown' hgrow hnil
      have hne : v' ≠ .slice none 0 0 := fun e => by have := (hnil.1 e).1; cases this
      rw [Nat.zero_add, List.nil_append] at hown'
      obtain ⟨gg, cap, rfl, hF⟩ := own_fields hown' hne
      exact h gg cap w' hF hgrow

theorem free_any (l : Nat) (fs : List (Int × Int × BitVec 64)) (hl : fs.length = l) (hm : l ≤ maxLen) :
    ∃ W T E F, joinF fs = (W, T, E) ∧
      (∀ (q : Option Addr) (d : Nat) w, FieldsL w q fs → Calls Try.prog 21 #[.slice q l d] w fun e w' => e = .returned (.tuple #[.int .u64 (uv F), .int .i64 E]) ∧ Below w.heap.size w w') ∧
      ((E = 0 ∧ F = ~~~T) ∨ (E = 1 ∧ F = 0#64 ∧ T = 0#64 ∧ W = 0#64) ∨ (E = 4 ∧ F = 0#64 ∧ T = 0#64 ∧ W = 0#64)) := by
  rcases join_err fs with ⟨W, T, hj⟩ | hj | hj
  · exact ⟨W, T, 0, ~~~T, hj, fun p c w hf => free_ok p l c fs W T w hl hm hf hj, .inl ⟨rfl, rfl⟩⟩
  · exact ⟨_, _, 1, 0#64, hj, fun p c w hf => free_err p l c fs _ _ 1 w hl hm hf hj rfl, .inr (.inl ⟨rfl, rfl, rfl, rfl⟩)⟩
  · exact ⟨_, _, 4, 0#64, hj, fun p c w hf => free_err p l c fs _ _ 4 w hl hm hf hj rfl, .inr (.inr ⟨rfl, rfl, rfl, rfl⟩)⟩

set_option maxRecDepth 100000 in
set_option maxHeartbeats 8000000 in
theorem joins_walk (pa : Option Addr) (b off len cap : Nat) (w : World) (hp : 0 < len → pa = some ⟨b, off, none⟩)
    (hc : ∀ i, i < len → ∃ V p l c A N, AskAt w b (off + i * 4) V p l c A N ∧ FieldsAt w p l) :
    Calls Try.prog 6 #[.slice pa len cap] w fun e w' => e = .returned (.bool true) ∧ Below w.heap.size w w' := by
  have HP := Lib.hid hp
  have HC := Lib.hid hc
  clear hp hc
  go_enter Try.func6, Try.ntmps6
  go_wp2
  go_loopw [3] (fun i wr => ∃ k : Nat, k ≤ len ∧ k ≤ 15 ∧ i = .int .i64 k ∧ Below w.heap.size w wr ∧ w.heap.size ≤ wr.heap.size) (fun i _ => 15 - (intOf i).toNat)
  case atStart => exact ⟨0, Nat.zero_le _, Nat.zero_le _, rfl, Below.refl _ _, Nat.le_refl _⟩
  case round =>
    obtain ⟨k, hk, hk15, rfl, hB, hz⟩ := hrel
    have hp := HP.out
    have hc := HC.out
    clear HP HC
    by_cases hlt : k < len
    · by_cases hlt15 : k < 15
      · obtain ⟨V, p, l, c, A, N, ⟨e0, e1, e2, e3⟩, fb, fo, hfp, hfe⟩ := hc k hlt
        obtain rfl := hp (by omega)
        have hbl := World.block_lt_of_cell? _ _ e0
        have d0 := (hB.cell (p := ⟨b, off + k * 4, none⟩) hbl).trans e0
        have d1 := (hB.cell (p := ⟨b, off + k * 4 + 1, none⟩) hbl).trans e1
        have d2 := (hB.cell (p := ⟨b, off + k * 4 + 2, none⟩) hbl).trans e2
        have d3 := (hB.cell (p := ⟨b, off + k * 4 + 3, none⟩) hbl).trans e3
        have HFP := Lib.hid hfp
        have HFE := Lib.hid hfe
        have E0 := Lib.hid e0
        have E1 := Lib.hid e1
        clear hc hp e0 e1 e2 e3 hfp hfe
        by_cases hh : 200 < l
        · have hd : decide ((200 : Int) < l) = true := by rw [decide_eq_true_eq]; omega
          go_wp2_with (go_at_call 14; refine (heavy_any _ _ _ _ _ _ _ _ hd).mono ?_; rintro e w1 ⟨rfl, hb1⟩)
          go_ret
          exact ⟨rfl, (below_next hB hz hb1).1⟩
        · have hd : decide ((200 : Int) < l) = false := by rw [decide_eq_false_iff_not]; omega
          have HL := Lib.hid hh
          clear hh
          have HD := Lib.hid hd
          clear hd
          have hl200 : l ≤ 200 := by have := HL.out; omega
          obtain ⟨fs, hfl, hfs⟩ := fieldsL_of ⟨_, _, HFP.out, HFE.out⟩
          have hm : l ≤ maxLen := by unfold maxLen; omega
          obtain ⟨W, T, E, F, hj, hfree, hcase⟩ := free_any l fs hfl hm
          have HFS := Lib.hid hfs
          have HJ := Lib.hid hj
          have HFREE := Lib.hid hfree
          have HCASE := Lib.hid hcase
          have HFL := Lib.hid hfl
          clear hfs hj hfree hcase hfl HFP HFE
          have HB := Lib.hid hB
          clear hB
          rcases HCASE.out with ⟨rfl, rfl⟩ | ⟨rfl, rfl, rfl, rfl⟩ | ⟨rfl, rfl, rfl, rfl⟩
          all_goals
            go_wp2_with (first
              | (go_at_call 14
                 refine (heavy_any _ _ _ _ _ _ _ _ HD.out).mono ?_
                 rintro e w1 ⟨rfl, hb1⟩
                 have d1 := cell_later hb1 d1
                 obtain ⟨hB1, hz1⟩ := below_next HB.out hz hb1
                 have HB1 := Lib.hid hB1
                 clear hb1 hB1 d0 d2 d3
                 have bl : b < w1.heap.size := World.block_lt_of_cell? _ _ d1
                 have d1' : (w1.alloc (.cells #[] 39)).cell? ⟨b, off + k * 4 + 1, none⟩ = some (.slice p l c) := cell_later ((Below.refl _ w1).alloc (Nat.le_refl _) (.cells #[] 39)) d1)
              | (at_builtin
                 refine append_fields rfl _ _ rfl w1.heap.size w1.heap.size rfl (World.ownsRow_made w1 #[] 0 (Nat.le_refl _) (by decide) rfl) p l c fs rfl HFL.out (fields_later HFS.out (HB1.out.alloc hz1 _)) hl200 (by simp) ?_
                 intro gg gcap wq hF hgr
                 have hB2 := (HB1.out.alloc hz1 (.cells #[] 39)).grown hgr (by simp; omega) (fun k hk => by injection hk; omega)
                 have hz2 : w.heap.size ≤ wq.heap.size := hB2.size
                 clear hgr d1 d1' bl
                 have d1 := (hB2.cell (p := ⟨b, off + k * 4 + 1, none⟩) hbl).trans E1.out
                 have HF := Lib.hid hF
                 have HB2 := Lib.hid hB2
                 clear hF hB2)
              | (go_at_call 20; refine (join_any _ _ _ fs _ _ _ _ HFL.out hm HF.out HJ.out).mono ?_; rintro e w2 ⟨rfl, hb2⟩; have d1 := cell_later hb2 d1; have HF2 := Lib.hid (fields_later HF.out hb2); obtain ⟨hB3, hz3⟩ := below_next HB2.out hz2 hb2; have HB3 := Lib.hid hB3; clear hb2 hB3)
              | (go_at_call 21; refine (HFREE.out _ _ _ HF2.out).mono ?_; rintro e w3 ⟨rfl, hb3⟩; have d1 := cell_later hb3 d1; have HF3 := Lib.hid (fields_later HF2.out hb3); obtain ⟨hB4, hz4⟩ := below_next HB3.out hz3 hb3; have HB4 := Lib.hid hB4; clear hb3 hB4)
              | (go_at_call 22; refine (rjoin _ _ _ fs _ _ _ _ HFL.out hm (fields_later HFS.out HB4.out) HJ.out).mono ?_; rintro e w4 ⟨rfl, hb4⟩; have d1 := cell_later hb4 d1; have HF4 := Lib.hid (fields_later HF3.out hb4); obtain ⟨hB5, hz5⟩ := below_next HB4.out hz4 hb4; have HB5 := Lib.hid hB5; clear hb4 hB5)
              | (go_at_call 10; refine (num_any _ _).mono ?_; rintro e w5 ⟨rfl, rfl⟩))
            go_loopw [13] (fun j wr => ∃ q : Nat, q ≤ l ∧ j = .int .i64 q ∧ (Below w.heap.size w wr ∧ w.heap.size ≤ wr.heap.size) ∧ Hid (FieldsL wr (some ⟨gg, 0, none⟩) fs)) (fun j _ => 200 - (intOf j).toNat)
            case atStart => exact ⟨0, Nat.zero_le _, rfl, ⟨HB5.out, hz5⟩, HF4⟩
            case round =>
              obtain ⟨q, hq, rfl, ⟨hB6, hz6⟩, HF6⟩ := hrel
              clear d1
              by_cases hql : q < l
              · obtain ⟨⟨a, n, x⟩, hqx⟩ : ∃ f, fs[q]? = some f := ⟨_, List.getElem?_eq_getElem (by have := HFL.out; omega)⟩
                obtain ⟨fb, fo, rfl, f0, f1, f2⟩ := fieldsL_at HFS.out hqx
                obtain ⟨g0, g1, g2⟩ := fieldsL_zero HF6.out hqx
                have d1 := (hB6.cell (p := ⟨b, off + k * 4 + 1, none⟩) hbl).trans E1.out
                have hfb := World.block_lt_of_cell? _ _ f0
                have f0 := (hB6.cell (p := ⟨fb, fo + q * 3, none⟩) hfb).trans f0
                have f1 := (hB6.cell (p := ⟨fb, fo + q * 3 + 1, none⟩) hfb).trans f1
                have f2 := (hB6.cell (p := ⟨fb, fo + q * 3 + 2, none⟩) hfb).trans f2
                have hne := neq_field a n x
                have hgd := guardField
                have q0 : (0 : Int) ≤ (q : Int) := Int.natCast_nonneg _
                have q1 : (q : Int) < (l : Int) := by omega
                have k0 : (0 : Int) ≤ (k : Int) := Int.natCast_nonneg _
                have k1 : (k : Int) < (len : Int) := by omega
                go_wp2_with fail
                go_quiet (fail)
                go_wp2_with fail
                go_roundw
                case rel => exact ⟨q + 1, by omega, by go_num, ⟨below_drewN hB6 _, hz6⟩, Lib.hid (fields_later HF6.out (below_drewN (Below.refl _ _) _))⟩
                case measure => simp [intOf]; omega
              · by_cases hl3 : l = 3
                · subst hl3
                  obtain ⟨a0, n0, x0, a1, n1, x1, a2, n2, x2, rfl⟩ := three_of HFL.out
                  have hS0 := nine_of HF6.out
                  obtain ⟨i0, i1, i2, i3, i4, i5, i6, i7, i8⟩ := id hS0
                  go_wp2_with fail
                  go_region_held3 (fun w' => w'.cell? ⟨gg, 0, none⟩ = some (.int .i64 a0) ∧ w'.cell? ⟨gg, 1, none⟩ = some (.int .i64 n0) ∧ w'.cell? ⟨gg, 2, none⟩ = some (.int .u64 (uv x0)) ∧ w'.cell? ⟨gg, 3, none⟩ = some (.int .i64 a1) ∧ w'.cell? ⟨gg, 4, none⟩ = some (.int .i64 n1) ∧ w'.cell? ⟨gg, 5, none⟩ = some (.int .u64 (uv x1)) ∧ w'.cell? ⟨gg, 6, none⟩ = some (.int .i64 a2) ∧ w'.cell? ⟨gg, 7, none⟩ = some (.int .i64 n2) ∧ w'.cell? ⟨gg, 8, none⟩ = some (.int .u64 (uv x2)))
                    (first | go_keep | exact nine_later hb7 (by assumption))
                    (first | (go_at_call 20; refine (join_any _ 3 3 _ _ _ _ _ rfl (by decide) (drew_fields (made3 _ a0 n0 x0 a1 n1 x1 a2 n2 x2)) HJ.out).mono ?_; rintro e w7 ⟨rfl, hb7⟩))
                  obtain ⟨hB7, hz7⟩ : Below w.heap.size w w7 ∧ w.heap.size ≤ w7.heap.size := ⟨((hB6.alloc hz6 _).drew).trans (hb7.mono (by simp; omega)), by have := hb7.size; simp at this; omega⟩
                  clear hb7
                  go_wp2_with (go_at_call 10; refine (num_any _ _).mono ?_; rintro e w8 ⟨rfl, rfl⟩)
                  go_roundw
                  case rel => exact ⟨k + 1, by omega, by omega, by go_num, hB7, hz7⟩
                  case measure => simp [intOf]; omega
                · have hl3 : ((l : Int) == 3) = false := by rw [beq_eq_false_iff_ne]; omega
                  go_wp2_with fail
                  go_roundw
                  case rel => exact ⟨k + 1, by omega, by omega, by go_num, hB6, hz6⟩
                  case measure => simp [intOf]; omega
      · clear hc hp
        go_wp2_with (first
          | (go_at_call 20; refine (join_any none 0 0 [] _ _ _ _ rfl (Nat.zero_le _) (none_fields _) joinF_nil).mono ?_; rintro e w1 ⟨rfl, hb1⟩; obtain ⟨hB1, hz1⟩ := below_next hB hz hb1; clear hb1)
          | (go_at_call 21; refine (free_ok none 0 0 [] _ _ _ rfl (Nat.zero_le _) (none_fields _) joinF_nil).mono ?_; rintro e w2 ⟨rfl, hb2⟩; obtain ⟨hB2, hz2⟩ := below_next hB1 hz1 hb2; clear hb2)
          | (go_at_call 10; refine (num_any _ _).mono ?_; rintro e w4 ⟨rfl, rfl⟩)
          | (go_at_call 13; refine (wakes_1 _).mono ?_; rintro e w3 ⟨rfl, hb3⟩))
        go_ret
        exact ⟨rfl, hB2.trans (hb3.mono hz2)⟩
    · clear hc hp
      go_wp2_with (first
        | (go_at_call 20; refine (join_any none 0 0 [] _ _ _ _ rfl (Nat.zero_le _) (none_fields _) joinF_nil).mono ?_; rintro e w1 ⟨rfl, hb1⟩; obtain ⟨hB1, hz1⟩ := below_next hB hz hb1; clear hb1)
        | (go_at_call 21; refine (free_ok none 0 0 [] _ _ _ rfl (Nat.zero_le _) (none_fields _) joinF_nil).mono ?_; rintro e w2 ⟨rfl, hb2⟩; obtain ⟨hB2, hz2⟩ := below_next hB1 hz1 hb2; clear hb2)
        | (go_at_call 10; refine (num_any _ _).mono ?_; rintro e w4 ⟨rfl, rfl⟩)
        | (go_at_call 13; refine (wakes_1 _).mono ?_; rintro e w3 ⟨rfl, hb3⟩))
      go_ret
      exact ⟨rfl, hB2.trans (hb3.mono hz2)⟩
end Go.Proofs.Ytanndkcelgijoaa
