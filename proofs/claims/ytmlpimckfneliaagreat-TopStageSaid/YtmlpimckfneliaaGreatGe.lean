/- A run reckoned beforehand: calls that are like one that was reckoned, one by one and in families. No conditions. -/
import Derived.Test.YtmlpimckfneliaaGreatGd
import Derived.Test.YtmlpimckfneliaaGreatFn
namespace Go.Proofs.YtmlpimckfneliaaGreat.Ev
/-- a reckoned call: arguments, blocks, the next name, what came of it -/
structure Rk where
  a : List CV
  h : Hp
  n : Nat
  o : Out
def lowB : Hp → Nat → Bool
  | [], _ => true
  | p :: l, n => Nat.blt p.1 n && lowB l n
theorem lowB_ok : ∀ {H : Hp} {n : Nat}, lowB H n = true → Low H n
  | [], _, _, p, hp => by cases hp
  | q :: l, n, h, p, hp => by
    unfold lowB at h
    rw [Bool.and_eq_true, Nat.blt_eq] at h
    rcases List.mem_cons.1 hp with rfl | hp
    · exact h.1
    · exact lowB_ok h.2 p hp
def chk (call : CallF) (f : Nat) (e : Rk) : Bool := match e with
  | ⟨a, h, n, o⟩ => isOut (call f a h n) o && lowB h n
noncomputable def mt (e : Rk) (args : List CV) (H : Hp) (n : Nat) : R := Rk.rec (fun a h n0 o => mtch a h n0 o args H n) e
theorem mt_ok {call : CallF} {f : Nat} {e : Rk} (hcall : Sound call) (hc : chk call f e = true) : ∀ s, One s → ∀ args (H : Hp) n out, mt e args H n = some out → Low H n → CallSim Tryz.prog s f args H n out := by
  intro s hs args H n out h _
  obtain ⟨a, h0, n0, o⟩ := e
  unfold chk at hc
  simp only [Bool.and_eq_true] at hc
  have hl := lowB_ok hc.2
  exact mtch_ok hs (fun s' hs' => hcall s' hs' f a h0 n0 o (isOut_ok hc.1) hl) hl h
/-- a family: by a number that is made of the arguments -/
noncomputable def fam (key : List CV → Option Nat) (hi : Nat) (E : Nat → Rk) (args : List CV) (H : Hp) (n : Nat) : R := match key args with
  | none => none
  | some i => match Nat.blt i hi with
    | true => mt (E i) args H n
    | false => none
theorem fam_ok {call : CallF} {f hi : Nat} {key : List CV → Option Nat} {E : Nat → Rk} (hcall : Sound call) (hc : ∀ i, i < hi → chk call f (E i) = true) : ∀ s, One s → ∀ args (H : Hp) n out, fam key hi E args H n = some out → Low H n → CallSim Tryz.prog s f args H n out := by
  intro s hs args H n out h hl
  unfold fam at h
  split at h
  · cases h
  · split at h
    · rename_i i _ _ hb
      rw [Nat.blt_eq] at hb
      exact mt_ok hcall (hc i hb) s hs args H n out h hl
    · cases h
/-- one after the other -/
noncomputable def orR (a b : List CV → Hp → Nat → R) (args : List CV) (H : Hp) (n : Nat) : R := match a args H n with
  | some o => some o
  | none => b args H n
theorem orR_ok {f : Nat} {a b : List CV → Hp → Nat → R} (ha : ∀ s, One s → ∀ args (H : Hp) n out, a args H n = some out → Low H n → CallSim Tryz.prog s f args H n out) (hb : ∀ s, One s → ∀ args (H : Hp) n out, b args H n = some out → Low H n → CallSim Tryz.prog s f args H n out) : ∀ s, One s → ∀ args (H : Hp) n out, orR a b args H n = some out → Low H n → CallSim Tryz.prog s f args H n out := by
  intro s hs args H n out h hl
  unfold orR at h
  split at h
  · rename_i o ho
    injection h with h
    subst h
    exact ha s hs args H n o ho hl
  · exact hb s hs args H n out h hl
theorem all_lt {p : Nat → Bool} {n : Nat} (h : ∀ i, 0 ≤ i → i < 0 + n → p i = true) : ∀ i, i < n → p i = true := fun i hi => h i (Nat.zero_le _) (by omega)
theorem all_two {p : Nat → Bool} {a m n : Nat} (h : ∀ i, a ≤ i → i < a + m → p i = true) (h' : ∀ i, a + m ≤ i → i < a + m + n → p i = true) : ∀ i, a ≤ i → i < a + (m + n) → p i = true := fun i h1 h2 => by
  rcases Nat.lt_or_ge i (a + m) with h3 | h3
  · exact h i h1 h3
  · exact h' i h3 (by omega)
-- rows of cells
def kM (n : Nat) : CA := .lit (.int .i64 (.negSucc n))
def rowW (g : Nat → Nat) : Nat → Nat → List CA
  | 0, _ => []
  | k + 1, i => kU64 (g i) :: rowW g k (Nat.succ i)
def nums : Nat → Nat → List CA
  | 0, _ => []
  | k + 1, i => kI64 i :: nums k (Nat.succ i)
/-- a page's word in the host's tables -/
def wPg (n g : Nat) : Nat := match Nat.blt g 16 with
  | true => 16
  | false => match Nat.blt g n with
    | true => Nat.add 1219 (Nat.mul g 4096)
    | false => 0
/-- memory of n frames once so many pages are laid -/
def wd (n f i : Nat) : Nat := match Nat.blt i 24 with
  | true => (match Nat.blt i 16 with
    | true => (match Nat.blt 0 f with
      | true => (match i with
        | 0 => 4099
        | 8 => 8195
        | _ => 0)
      | false => 0)
    | false => (match Nat.blt (Nat.mul (Nat.sub i 16) 8) f with
      | true => Nat.add (Nat.mul (Nat.sub i 13) 4096) 3
      | false => 0))
  | false => (match Nat.blt (Nat.sub i 24) f with
    | true => wPg n (Nat.sub i 24)
    | false => 0)
def wm (n f i : Nat) : Nat := match Nat.beq i (Nat.add 24 f) with
  | true => Nat.add 1219 (Nat.mul f 4096)
  | false => wd n (Nat.succ f) i
def nth3 : List (Nat × Nat × Nat) → Nat → Nat × Nat × Nat
  | [], _ => (0, 0, 0)
  | p :: _, 0 => p
  | _ :: l, i + 1 => nth3 l i
end Go.Proofs.YtmlpimckfneliaaGreat.Ev
