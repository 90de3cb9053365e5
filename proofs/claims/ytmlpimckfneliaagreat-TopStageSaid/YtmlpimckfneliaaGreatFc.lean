/- A run reckoned beforehand, quickly: what the quick way finds the long way finds (values, slots, rows). No conditions. -/
import Derived.Test.YtmlpimckfneliaaGreatFa
import Derived.Test.YtmlpimckfneliaaGreatEr
namespace Go.Proofs.YtmlpimckfneliaaGreat.Ev
/-- nothing, or the same -/
def Le (x y : R) : Prop := x = none ∨ x = y
theorem Le.rfl' (x : R) : Le x x := .inr rfl
theorem Le.of {x y : R} (h : x = y) : Le x y := .inr h
theorem Le.no (y : R) : Le none y := .inl rfl
theorem Le.trans {x y z : R} (h : Le x y) (h' : Le y z) : Le x z := by
  rcases h with h | h
  · exact .inl h
  · rw [h]
    exact h'
theorem Le.some {x y : R} {o : Out} (h : Le x y) (hx : x = .some o) : y = .some o := by
  rcases h with h | h
  · rw [h] at hx
    cases hx
  · rw [← h]
    exact hx
def bnd {α : Type} (x : Option α) (K : α → R) : R := match x with
  | some v => K v
  | none => none
theorem bnd_le {α : Type} {x : Option α} {K K' : α → R} (h : ∀ v, Le (K v) (K' v)) : Le (bnd x K) (bnd x K') := by
  cases x with
  | none => exact .inl rfl
  | some v => exact h v
theorem getK_eq {α : Type} (t : N8 α) (i : D8) (K : α → R) : getK α t i K = K (t.get i) := by
  cases t
  cases i <;> rfl
theorem setK_eq {α : Type} (t : N8 α) (i : D8) {F : α → (α → R) → R} {g : α → α} (hF : ∀ x K, F x K = K (g x)) (K : N8 α → R) : setK α t i F K = K (t.set i (g (t.get i))) := by
  cases t
  cases i <;> exact hF _ _
def XX.val (x : XX) (env : Tr) : Option CV := match x with
  | .sl i j l => some (env.get3 i j l)
  | .k v => some v
  | .bad => none
theorem xX_eq (x : XX) (env : Tr) (K : CV → R) : xX x env K = bnd (x.val env) K := by
  cases x with
  | sl i j l =>
    show getK (N8 (N8 CV)) env i (get2 j l K) = _
    rw [getK_eq]
    show getK (N8 CV) _ j (get1 l K) = _
    rw [getK_eq]
    show getK CV _ l K = _
    rw [getK_eq]
    rfl
  | k v => rfl
  | bad => rfl
theorem digK_eq {β : Type} (n : Nat) (K : D8 → β) : digK n K = K (dig n) := by
  rcases n with _ | _ | _ | _ | _ | _ | _ | n <;> rfl
theorem cS_val (sz t : Nat) (env : Tr) : (cS sz t).val env = lookT env sz t := by
  unfold cS lookT
  cases (Nat.blt t sz && Nat.blt t 500) with
  | true =>
    simp only [digK_eq]
    rfl
  | false => rfl
theorem cK_val (v : Value) (env : Tr) : (cK v).val env = some (ofVal v) := by
  unfold cK
  split
  · rw [frcI_eq]
    rfl
  · rename_i b
    cases b <;> rfl
  · rfl
theorem cX_val (sz : Nat) (x : Operand) (env : Tr) : (cX sz x).val env = evX env sz x := by
  cases x with
  | tmp t => exact cS_val sz t env
  | const v => exact cK_val v env
  | func f => rfl
  | global g => rfl
theorem xC_eq (sz : Nat) (x : Operand) (env : Tr) (K : CV → R) : xX (cX sz x) env K = bnd (evX env sz x) K := by rw [xX_eq, cX_val]
theorem putTo_eq (i j l : D8) (env : Tr) (v : CV) (K : Tr → R) : putTo i j l env v K = K (Tr.set3 env i j l v) := by
  unfold putTo
  rw [setK_eq (g := fun t => t.set j ((t.get j).set l v))]
  · rfl
  · intro t K
    unfold put2
    rw [setK_eq (g := fun t => t.set l v)]
    intro t K
    unfold put1
    rw [setK_eq (g := fun _ => v)]
    intro _ _
    rfl
theorem putK_eq (sz : Nat) (d : Option Tmp) (env : Tr) (v : CV) (K : Tr → R) : putK (cD sz d) env v K = bnd (putT env sz d v) K := by
  cases d with
  | none => rfl
  | some t =>
    unfold cD putT
    simp only
    cases (Nat.blt t sz && Nat.blt t 500) with
    | true =>
      simp only [digK_eq]
      show putTo _ _ _ env v K = _
      rw [putTo_eq]
      split
      · rw [frcA_eq]
        rfl
      · rfl
    | false => rfl
theorem fcN_eq (m : Nat) (K : Nat → R) : fcN m K = K m := by cases m <;> rfl
theorem lvOf_int (k : IntKind) (n : Int) : lvOf (.int k n) = .i k n := rfl
theorem fcA_eq (a : CA) (K : CA → R) : fcA a K = K a := by
  cases a with
  | lit v =>
    cases v with
    | int k n =>
      cases n with
      | ofNat m =>
        show fcN m _ = _
        rw [fcN_eq]
      | negSucc m =>
        show fcN m _ = _
        rw [fcN_eq]
    | bool b => cases b <;> rfl
    | _ => rfl
  | sym n => rfl
  | ptr b off =>
    show fcN b _ = _
    rw [fcN_eq, fcN_eq]
  | sl b off len cap =>
    show fcN b _ = _
    rw [fcN_eq, fcN_eq, fcN_eq, fcN_eq]
  | slu b off len cap =>
    show fcN b _ = _
    rw [fcN_eq, fcN_eq, fcN_eq, fcN_eq]
  | fn f ps => rfl
theorem frcL_eq : ∀ (l : List CA) (K : List CA → R), frcL l K = K l
  | [], K => rfl
  | a :: l, K => by
    show frcL l (fun r => K (a :: r)) = _
    rw [frcL_eq l]
theorem spH_eq : ∀ (l : Hp) (K : Hp → R), spH l K = K l
  | [], K => rfl
  | a :: l, K => by
    show spH l (fun r => K (a :: r)) = _
    rw [spH_eq l]
theorem frcPs_eq : ∀ (l : List CP) (K : List CP → R), frcPs l K = K l
  | [], K => rfl
  | .one a :: l, K => by
    show fcA a (fun a => frcPs l fun r => K (.one a :: r)) = _
    rw [fcA_eq, frcPs_eq l]
  | .ag cs :: l, K => by
    show frcL cs (fun cs => frcPs l fun r => K (.ag cs :: r)) = _
    rw [frcL_eq, frcPs_eq l]
theorem frcV_eq (v : CV) (K : CV → R) : frcV v K = K v := by
  unfold frcV
  split
  · rw [fcA_eq]
  · rw [frcL_eq]
  · rw [frcPs_eq]
theorem frcH_eq : ∀ (l : Hp) (K : Hp → R), frcH l K = K l
  | [], K => rfl
  | (b, ⟨t, cs, sl⟩) :: l, K => by
    show fcN b (fun b => frcL cs fun cs => frcH l fun r => K ((b, ⟨t, cs, sl⟩) :: r)) = _
    rw [fcN_eq, frcL_eq, frcH_eq l]
theorem frcO_eq (o : Out) (K : Out → R) : frcO o K = K o := by
  obtain ⟨v, news, nx, T, U, rd⟩ := o
  unfold frcO
  simp only
  rw [frcV_eq, frcH_eq, frcH_eq]
theorem spO_eq (o : Out) (K : Out → R) : spO o K = K o := by
  obtain ⟨v, news, nx, T, U, rd⟩ := o
  unfold spO
  simp only
  rw [frcV_eq, spH_eq, spH_eq]
theorem appK_eq : ∀ (l H : Hp) (K : Hp → R), appK l H K = K (l ++ H)
  | [], H, K => rfl
  | p :: l, H, K => by
    show appK l H (fun r => K (p :: r)) = _
    rw [appK_eq l]
    rfl
theorem dropK_eq (T : List Nat) : ∀ (H : Hp) (K : Hp → R), dropK T H K = K (dropH H T)
  | [], K => rfl
  | (b, k) :: l, K => by
    unfold dropK dropH
    simp only
    cases memN T b with
    | true => exact dropK_eq T l K
    | false => exact dropK_eq T l _
theorem memN_one (b b' : Nat) : memN [b] b' = Nat.beq b b' := by
  unfold memN
  cases Nat.beq b b' <;> rfl
theorem drop1K_eq (b : Nat) : ∀ (H : Hp) (K : Hp → R), drop1K b H K = K (dropH H [b])
  | [], K => rfl
  | (b', k) :: l, K => by
    show Bool.rec (motive := fun _ => R) (drop1K b l fun r => K ((b', k) :: r)) (drop1K b l K) (Nat.beq b b') = _
    unfold dropH
    simp only [memN_one]
    cases Nat.beq b b' with
    | true => exact drop1K_eq b l K
    | false => exact drop1K_eq b l _
theorem nextK_eq (H news : Hp) (T : List Nat) (U : Hp) (v : CV) (nx : Nat) (rd : Hp) (K : Hp → R) : nextK H news T U K = K (nextH H ⟨v, news, nx, T, U, rd⟩) := by
  unfold nextK nextH
  simp only
  split
  · rw [appK_eq]
    cases news <;> rfl
  · rw [drop1K_eq, appK_eq, appK_eq]
  · rename_i h1 h2
    rw [dropK_eq, appK_eq, appK_eq]
    split
    · exact (h1 rfl).elim
    · rfl
theorem addK_eq (n0 : Nat) : ∀ (m l : List Nat) (K : List Nat → R), addK n0 m l K = K (addN l n0 m)
  | [], l, K => rfl
  | b :: m, l, K => by
    unfold addK addN
    cases (Nat.blt b n0 && !memN l b) with
    | true => exact addK_eq n0 m _ K
    | false => exact addK_eq n0 m _ K
theorem findK_eq (K : CB → R) (b : Nat) : ∀ H : Hp, findK K b H = bnd (findH H b) K
  | [] => rfl
  | (b', k) :: l => by
    show Bool.rec (motive := fun _ => R) (findK K b l) (K k) (Nat.beq b' b) = _
    unfold findH
    simp only
    cases Nat.beq b' b with
    | true => rfl
    | false => exact findK_eq K b l
theorem at1_eq : ∀ (cs : List CA) (i : Nat) (K : List CA → R), at1 cs i K = if i ≤ cs.length then K (cs.drop i) else none
  | [], 0, K => by
    rw [if_pos (Nat.zero_le _)]
    rfl
  | [], i + 1, K => by
    rw [if_neg (by simp)]
    rfl
  | a :: l, 0, K => by
    rw [if_pos (Nat.zero_le _)]
    rfl
  | a :: l, i + 1, K => by
    show at1 l i K = _
    rw [at1_eq l i K]
    simp
theorem nthK_eq (K : CA → R) (cs : List CA) (i : Nat) : nthK K cs i = bnd cs[i]? K := by
  unfold nthK
  rw [at1_eq]
  split
  · rename_i h
    cases hd : cs.drop i with
    | nil =>
      have : cs.length ≤ i := List.drop_eq_nil_iff.1 hd
      rw [List.getElem?_eq_none this]
      rfl
    | cons a l =>
      have h2 : (cs.drop i)[0]? = some a := by rw [hd]; rfl
      rw [List.getElem?_drop, Nat.add_zero] at h2
      rw [h2]
      rfl
  · rename_i h
    rw [List.getElem?_eq_none (by omega)]
    rfl
theorem takeK_eq : ∀ (n : Nat) (l : List CA) (K : List CA → R), takeK n l K = if n ≤ l.length then K (l.take n) else none
  | 0, l, K => by
    rw [if_pos (Nat.zero_le _)]
    rfl
  | n + 1, [], K => by
    rw [if_neg (by simp)]
    rfl
  | n + 1, a :: l, K => by
    show takeK n l (fun r => K (a :: r)) = _
    rw [takeK_eq n l]
    simp
theorem cellK_eq (x : CA) : ∀ (cs : List CA) (i : Nat) (K : List CA → R), cellK x cs i K = if i < cs.length then K (splice cs i [x]) else none
  | [], i, K => by
    rw [if_neg (by simp)]
    rfl
  | a :: l, 0, K => by
    rw [if_pos (by simp)]
    rfl
  | a :: l, i + 1, K => by
    show cellK x l i (fun r => K (a :: r)) = _
    rw [cellK_eq x l i]
    simp [splice]
theorem okV_eq (v : Value) : okV v = v.oneCell' := by cases v <;> rfl
theorem okA_eq (a : CA) : okA a = litsOk [a] := by
  cases a with
  | lit v => simp [okA, litsOk, okV_eq]
  | _ => rfl
theorem argsK_eq (sz : Nat) (env : Tr) : ∀ (l : List Operand) (K : List CV → R), argsK env (cXs sz l) K = bnd (argsOf (evX env sz) l) K
  | [], K => rfl
  | x :: l, K => by
    show xX (cX sz x) env (fun v => argsK env (cXs sz l) fun r => K (v :: r)) = _
    rw [xC_eq]
    unfold argsOf
    cases evX env sz x with
    | none => rfl
    | some v =>
      simp only [bnd]
      rw [argsK_eq sz env l]
      cases argsOf (evX env sz) l <;> rfl
end Go.Proofs.YtmlpimckfneliaaGreat.Ev
