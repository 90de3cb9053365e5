/- What fields are together: the plain function, and laws on it. No conditions. -/
import Derived.Test.YtfialajiaphciaaU64
namespace Go.Proofs.Ytfialajiaphciaa

def mayF (f : Int × Int × BitVec 64) : Bool := mayB f.1 f.2.1 f.2.2
def stepF (s : Option (BitVec 64 × BitVec 64)) (f : Int × Int × BitVec 64) : Option (BitVec 64 × BitVec 64) :=
  match s with
  | none => none
  | some (w, t) => if (t &&& maskB f.1 f.2.1 == 0#64) = true then some (w ||| f.2.2 <<< f.1.toNat, t ||| maskB f.1 f.2.1) else none
def foldF (fs : List (Int × Int × BitVec 64)) : Option (BitVec 64 × BitVec 64) := fs.foldl stepF (some (0#64, 0#64))
def joinF (fs : List (Int × Int × BitVec 64)) : BitVec 64 × BitVec 64 × Int :=
  if fs.all mayF = true then
    match foldF fs with
    | none => (0#64, 0#64, 4)
    | some (w, t) => (w, t, 0)
  else (0#64, 0#64, 1)

theorem take_snoc {α : Type} {fs : List α} {k : Nat} {f : α} (h : fs[k]? = some f) : fs.take (k + 1) = fs.take k ++ [f] := by
  rw [List.take_add_one, h]; rfl
theorem foldF_nil : foldF ([] : List (Int × Int × BitVec 64)) = some (0#64, 0#64) := rfl
theorem foldF_snoc (l : List (Int × Int × BitVec 64)) (f : Int × Int × BitVec 64) : foldF (l ++ [f]) = stepF (foldF l) f := by
  unfold foldF; rw [List.foldl_append]; rfl
theorem fold_none (l : List (Int × Int × BitVec 64)) : l.foldl stepF none = none := by
  induction l with
  | nil => rfl
  | cons a l ih => exact ih
theorem foldF_none {fs : List (Int × Int × BitVec 64)} {k : Nat} (h : foldF (fs.take k) = none) : foldF fs = none := by
  have e : fs = fs.take k ++ fs.drop k := (List.take_append_drop k fs).symm
  rw [e]
  unfold foldF at h ⊢
  rw [List.foldl_append, h, fold_none]
theorem join_bad {fs : List (Int × Int × BitVec 64)} {k : Nat} {a n : Int} {x : BitVec 64} (h : fs[k]? = some (a, n, x)) (hb : mayB a n x = false) : joinF fs = (0#64, 0#64, 1) := by
  unfold joinF
  rw [if_neg]
  intro hall
  rw [List.all_eq_true] at hall
  have := hall _ (List.mem_of_getElem? h)
  simp [mayF, hb] at this
theorem join_there {fs : List (Int × Int × BitVec 64)} {k : Nat} {a n : Int} {x W T : BitVec 64} (hall : fs.all mayF = true) (h : fs[k]? = some (a, n, x)) (hf : foldF (fs.take k) = some (W, T))
    (hb : (T &&& maskB a n == 0#64) = false) : joinF fs = (0#64, 0#64, 4) := by
  have h1 : foldF (fs.take (k + 1)) = none := by
    rw [take_snoc h, foldF_snoc, hf]
    show (if (T &&& maskB a n == 0#64) = true then some (W ||| x <<< a.toNat, T ||| maskB a n) else none) = none
    rw [if_neg (by simp [hb])]
  unfold joinF
  rw [if_pos hall, foldF_none h1]
theorem join_ok {fs : List (Int × Int × BitVec 64)} {W T : BitVec 64} (hall : fs.all mayF = true) (hf : foldF fs = some (W, T)) : joinF fs = (W, T, 0) := by
  unfold joinF
  rw [if_pos hall, hf]
theorem fold_step {fs : List (Int × Int × BitVec 64)} {k : Nat} {a n : Int} {x W T : BitVec 64} (h : fs[k]? = some (a, n, x)) (hf : foldF (fs.take k) = some (W, T))
    (hb : (T &&& maskB a n == 0#64) = true) : foldF (fs.take (k + 1)) = some (W ||| x <<< a.toNat, T ||| maskB a n) := by
  rw [take_snoc h, foldF_snoc, hf]
  show (if (T &&& maskB a n == 0#64) = true then some (W ||| x <<< a.toNat, T ||| maskB a n) else none) = _
  rw [if_pos hb]
theorem all_step {fs : List (Int × Int × BitVec 64)} {k : Nat} {a n : Int} {x : BitVec 64} (h : fs[k]? = some (a, n, x)) (hall : (fs.take k).all mayF = true) (hb : mayB a n x = true) : (fs.take (k + 1)).all mayF = true := by
  rw [take_snoc h, List.all_append, hall]
  simp [mayF, hb]
theorem join_err (fs : List (Int × Int × BitVec 64)) : (∃ W T, joinF fs = (W, T, 0)) ∨ joinF fs = (0#64, 0#64, 1) ∨ joinF fs = (0#64, 0#64, 4) := by
  unfold joinF
  split
  · split
    · exact .inr (.inr rfl)
    · exact .inl ⟨_, _, rfl⟩
  · exact .inr (.inl rfl)

theorem exists_list {α : Type} {P : Nat → α → Prop} (l : Nat) (h : ∀ j, j < l → ∃ f, P j f) : ∃ fs : List α, fs.length = l ∧ ∀ j f, fs[j]? = some f → P j f := by
  induction l with
  | zero => exact ⟨[], rfl, fun j f hf => by simp at hf⟩
  | succ l ih =>
    obtain ⟨fs, hl, hfs⟩ := ih (fun j hj => h j (by omega))
    obtain ⟨f, hf⟩ := h l (by omega)
    refine ⟨fs ++ [f], by simp [hl], fun j g hg => ?_⟩
    by_cases hj : j < l
    · rw [List.getElem?_append_left (by omega)] at hg
      exact hfs j g hg
    · rw [List.getElem?_append_right (by omega)] at hg
      by_cases hj0 : j = l
      · subst hj0
        rw [hl] at hg
        simp at hg
        subst hg
        exact hf
      · have e : (j - fs.length) ≠ 0 := by omega
        rw [List.getElem?_eq_none (by simp; omega)] at hg
        cases hg
end Go.Proofs.Ytfialajiaphciaa
