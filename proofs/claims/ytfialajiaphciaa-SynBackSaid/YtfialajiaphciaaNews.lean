/- A row of fields that a call has appended. -/
import Derived.Test.YtfialajiaphciaaWc
import Derived.Laws.AppendOwn
namespace Go.Proofs.Ytfialajiaphciaa
open Go.RowKit
theorem info84 : (Try.prog.info? 84).map (fun i => (i.zero, i.size, i.bytes)) = some (some (.agg #[.int .i64 0, .int .i64 0, .int .u64 0]), 3, 24) := by kernel_rfl
theorem fields_later {w wr : World} {p : Option Addr} {fs : List (Int × Int × BitVec 64)} (h : FieldsL w p fs) (hb : Below w.heap.size w wr) : FieldsL wr p fs := by
  obtain ⟨fb, fo, hp, hf⟩ := h
  exact ⟨fb, fo, hp, fun j a n x hx => ⟨cell_later hb (hf j a n x hx).1, cell_later hb (hf j a n x hx).2.1, cell_later hb (hf j a n x hx).2.2⟩⟩
/-- the cells of fields -/
def newsOf : List (Int × Int × BitVec 64) → List Value
  | [] => []
  | f :: fs => .int .i64 f.1 :: .int .i64 f.2.1 :: .int .u64 (uv f.2.2) :: newsOf fs
theorem newsOf_length (fs : List (Int × Int × BitVec 64)) : (newsOf fs).length = fs.length * 3 := by
  induction fs with
  | nil => rfl
  | cons f fs ih => simp [newsOf, ih]; omega
theorem newsOf_get (fs : List (Int × Int × BitVec 64)) (j : Nat) (a n : Int) (x : BitVec 64) (h : fs[j]? = some (a, n, x)) :
    (newsOf fs)[j * 3]? = some (.int .i64 a) ∧ (newsOf fs)[j * 3 + 1]? = some (.int .i64 n) ∧ (newsOf fs)[j * 3 + 2]? = some (.int .u64 (uv x)) := by
  induction fs generalizing j with
  | nil => simp at h
  | cons f fs ih =>
    cases j with
    | zero => simp at h; subst h; simp [newsOf]
    | succ j =>
      simp at h
      obtain ⟨h1, h2, h3⟩ := ih j h
      have e : (j + 1) * 3 = j * 3 + 3 := by omega
      rw [e]
      exact ⟨by simpa [newsOf] using h1, by simpa [newsOf] using h2, by simpa [newsOf] using h3⟩
theorem newsOf_one (fs : List (Int × Int × BitVec 64)) : ∀ u ∈ newsOf fs, u.oneCell' = true := by
  induction fs with
  | nil => intro u hu; cases hu
  | cons f fs ih =>
    intro u hu
    simp only [newsOf, List.mem_cons] at hu
    rcases hu with rfl | rfl | rfl | hu
    · rfl
    · rfl
    · rfl
    · exact ih u hu
/-- what an owned row of them is -/
theorem own_fields {w : World} {base n : Nat} {e : TypeId} {v : Value} {fs : List (Int × Int × BitVec 64)} (h : w.ownsRow base e 3 v n (newsOf fs)) (hv : v ≠ .slice none 0 0) :
    ∃ g cap, v = .slice (some ⟨g, 0, none⟩) n cap ∧ FieldsL w (some ⟨g, 0, none⟩) fs := by
  have hc := fun g hg => h.cells (g := g) hg
  obtain ⟨hl, h0 | ⟨g, cap, cur, rfl, _⟩⟩ := h
  · exact absurd h0.1 hv
  · refine ⟨g, cap, rfl, g, 0, fun _ => rfl, fun j a n x hj => ?_⟩
    obtain ⟨h1, h2, h3⟩ := newsOf_get fs j a n x hj
    have c := hc g rfl
    have c1 := c _ _ h1
    have c2 := c _ _ h2
    have c3 := c _ _ h3
    rw [Go.WideShapes.add_plain] at c1 c2 c3
    exact ⟨c1, by rw [Nat.add_assoc]; exact c2, by rw [Nat.add_assoc]; exact c3⟩

theorem newsOf_append (fs gs : List (Int × Int × BitVec 64)) : newsOf (fs ++ gs) = newsOf fs ++ newsOf gs := by
  induction fs with
  | nil => rfl
  | cons f fs ih => simp [newsOf, ih]
/-- one field more -/
theorem append_one {w : World} {ops : Array Oper} {rest : List Oper} {o : Oper} {a : Act} {Q : Exit → Act → World → Prop} (hgd : o.guard = none) (s x : Operand)
    (ho : o.op = .call { callee := .builtin .append, args := #[s, x], argTypes := #[76, 76] }) (base : Nat) (v : Value) (n : Nat) (fs : List (Int × Int × BitVec 64)) (hs : a.eval s = v)
    (hown : w.ownsRow base 84 3 v n (newsOf fs)) (g c : Nat) (hx : a.eval x = .slice (some ⟨g, 0, none⟩) 1 c) (f : Int × Int × BitVec 64)
    (h0 : w.cell? ⟨g, 0, none⟩ = some (.int .i64 f.1)) (h1 : w.cell? ⟨g, 1, none⟩ = some (.int .i64 f.2.1)) (h2 : w.cell? ⟨g, 2, none⟩ = some (.int .u64 (uv f.2.2))) (hn : n ≤ 200) (hbase : base ≤ w.heap.size)
    (h : ∀ v' w', w'.ownsRow base 84 3 v' (n + 1) (newsOf (fs ++ [f])) → w.grownBy w' v.ownBlock → wpList Try.prog ops Q rest (a.put o.dst v') w') : wpList Try.prog ops Q (o :: rest) a w := by
  have hI := info84
  obtain ⟨i, hi, hz⟩ : ∃ i, Try.prog.info? 84 = some i ∧ (i.zero, i.size, i.bytes) = (some (.agg #[.int .i64 0, .int .i64 0, .int .u64 0]), 3, 24) := by
    cases hc : Try.prog.info? 84 with
    | none => rw [hc] at hI; cases hI
    | some i => rw [hc] at hI; exact ⟨i, rfl, by simpa using hI⟩
  injection hz with hz0 hz
  injection hz with hz1 hz2
  have ht := @Try.underlying76
  refine wpList_append_own w hgd s x _ ho base _ i _ 3 24 ht hi hz0 hz1 hz2 rfl (by decide) v n (newsOf fs) hs hown ⟨g, 0, none⟩ 1 c (newsOf [f]) hx rfl ?_ (newsOf_one [f]) (by unfold maxLen; omega) (by omega) hbase ?_
  · intro j u hu
    rw [Go.WideShapes.add_plain]
    match j, hu with
    | 0, hu => simp [newsOf] at hu; subst hu; exact h0
    | 1, hu => simp [newsOf] at hu; subst hu; exact h1
    | 2, hu => simp [newsOf] at hu; subst hu; exact h2
    | j + 3, hu => simp [newsOf] at hu
  · intro v' w' hown' hgrow _
    rw [← newsOf_append] at hown'
    exact h v' w' hown' hgrow
end Go.Proofs.Ytfialajiaphciaa
