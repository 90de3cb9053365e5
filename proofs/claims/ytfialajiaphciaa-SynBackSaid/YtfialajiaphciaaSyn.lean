/- The contracts of package syn. -/
import Derived.Test.YtfialajiaphciaaWb
import Derived.Test.YtfialajiaphciaaNews
import Derived.Test.YtfialajiaphciaaUsyn
namespace Go.Proofs.Ytfialajiaphciaa
open Go.RowKit

/-- the parts of a fault: place, width, most, number -/
def partsL (k s l : Int) (wk : Bool) (p : Int) : List (Int × Int × Int × Int) := [(0, 3, 4, k), (3, 2, 2, s), (5, 2, 3, l), (7, 1, 1, onI wk), (8, 12, 4095, p)]
def PartsAt (w : World) (g : Nat) (ps : List (Int × Int × Int × Int)) : Prop :=
  ∀ j a n m x, ps[j]? = some (a, n, m, x) →
    w.cell? ⟨g, j * 5, none⟩ = some (.int .i64 a) ∧ w.cell? ⟨g, j * 5 + 1, none⟩ = some (.int .i64 n) ∧ w.cell? ⟨g, j * 5 + 2, none⟩ = some (.int .u64 0) ∧ w.cell? ⟨g, j * 5 + 3, none⟩ = some (.int .i64 m) ∧ w.cell? ⟨g, j * 5 + 4, none⟩ = some (.int .i64 x)
set_option maxHeartbeats 4000000 in
theorem parts_any (k s l : Int) (wk : Bool) (p : Int) (w : World) :
    Calls Try.prog 48 #[.agg #[.int .i64 k, .int .i64 s, .int .i64 l, .bool wk, .int .i64 p]] w fun e w' => ∃ g, e = .returned (.slice (some ⟨g, 0, none⟩) 5 5) ∧ Below w.heap.size w w' ∧ w.heap.size ≤ g ∧ g < w'.heap.size ∧ PartsAt w' g (partsL k s l wk p) := by
  cases wk
  all_goals
    go_enter Try.func48, Try.ntmps48
    go_wp2
    go_ret
    refine ⟨w.heap.size + 1, rfl, ((Below.refl _ _).alloc (Nat.le_refl _) _).alloc (by simp) _, by omega, by simp, ?_⟩
    intro j a n m x hj
    match j, hj with
    | 0, hj => simp [partsL] at hj; obtain ⟨rfl, rfl, rfl, rfl⟩ := hj; simp [go_sem]
    | 1, hj => simp [partsL] at hj; obtain ⟨rfl, rfl, rfl, rfl⟩ := hj; simp [go_sem]
    | 2, hj => simp [partsL] at hj; obtain ⟨rfl, rfl, rfl, rfl⟩ := hj; simp [go_sem]
    | 3, hj => simp [partsL] at hj; obtain ⟨rfl, rfl, rfl, rfl⟩ := hj; simp [go_sem, onI]
    | 4, hj => simp [partsL] at hj; obtain ⟨rfl, rfl, rfl, rfl⟩ := hj; simp [go_sem]
    | j + 5, hj => simp [partsL] at hj

def fieldOf (f : Int × Int × Int × Int) : Int × Int × BitVec 64 := (f.1, f.2.1, BitVec.ofInt 64 f.2.2.2)
def partOk (f : Int × Int × Int × Int) : Bool := btwB f.2.2.2 0 f.2.2.1
theorem parts_fields (k s l : Int) (wk : Bool) (p : Int) : (partsL k s l wk p).map fieldOf = synL k s l wk p := by cases wk <;> rfl
theorem parts_ok (k s l : Int) (wk : Bool) (p : Int) : (partsL k s l wk p).all partOk = okS k s l p := by
  have h : btwB (onI wk) 0 1 = true := by cases wk <;> rfl
  simp only [partsL, List.all_cons, List.all_nil, partOk, okS, h, Bool.and_true, Bool.true_and]
  rw [Bool.and_assoc, Bool.and_assoc]
end Go.Proofs.Ytfialajiaphciaa
