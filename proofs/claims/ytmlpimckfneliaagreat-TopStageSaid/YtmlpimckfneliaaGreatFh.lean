/- A run reckoned beforehand: the tables of types and functions are the program's, by a check. No conditions. -/
import Derived.Test.YtmlpimckfneliaaGreatFg
namespace Go.Proofs.YtmlpimckfneliaaGreat.Ev
inductive Bt (α : Type) where
  | e
  | n (l : Bt α) (k : Nat) (v : α) (r : Bt α)
def Bt.get {α : Type} : Bt α → Nat → Option α
  | .e, _ => none
  | .n l k v r, x => match Nat.beq x k with
    | true => some v
    | false => match Nat.blt x k with
      | true => l.get x
      | false => r.get x
def Bt.all {α : Type} (f : Nat → α → Bool) : Bt α → Bool
  | .e => true
  | .n l k v r => l.all f && (f k v && r.all f)
def Bt.All {α : Type} (f : Nat → α → Prop) : Bt α → Prop
  | .e => True
  | .n l k v r => l.All f ∧ f k v ∧ r.All f
theorem Bt.get_all {α : Type} {f : Nat → α → Bool} : ∀ {t : Bt α}, t.all f = true → ∀ {x : Nat} {v : α}, t.get x = some v → f x v = true
  | .e, _, _, _, h => by cases h
  | .n l k u r, ha, x, v, h => by
    unfold Bt.all at ha
    rw [Bool.and_eq_true, Bool.and_eq_true] at ha
    unfold Bt.get at h
    split at h
    · rename_i hk
      injection h with h
      have := Nat.eq_of_beq_eq_true hk
      subst this
      subst h
      exact ha.2.1
    · split at h
      · exact Bt.get_all ha.1 h
      · exact Bt.get_all ha.2.2 h
theorem Bt.get_All {α : Type} {f : Nat → α → Prop} : ∀ {t : Bt α}, t.All f → ∀ {x : Nat} {v : α}, t.get x = some v → f x v
  | .e, _, _, _, h => by cases h
  | .n l k u r, ha, x, v, h => by
    obtain ⟨h1, h2, h3⟩ := ha
    unfold Bt.get at h
    split at h
    · rename_i hk
      injection h with h
      have := Nat.eq_of_beq_eq_true hk
      subst this
      subst h
      exact h2
    · split at h
      · exact Bt.get_All h1 h
      · exact Bt.get_All h3 h
def eqK (a b : IntKind) : Bool := decide (a = b)
/-- values at first, the same -/
def eqZ (x y : Value) : Bool := match x with
  | .bool a => (match y with | .bool b => a == b | _ => false)
  | .int k n => (match y with | .int k' m => eqK k k' && n == m | _ => false)
  | .pointer none => (match y with | .pointer none => true | _ => false)
  | .slice none a b => (match y with | .slice none c d => a == c && b == d | _ => false)
  | .nilFunc => (match y with | .nilFunc => true | _ => false)
  | .nilIface => (match y with | .nilIface => true | _ => false)
  | _ => false
theorem eqZ_ok {x y : Value} (h : eqZ x y = true) : x = y := by
  unfold eqZ at h
  split at h
  · split at h
    · rw [eq_of_beq h]
    · cases h
  · split at h
    · rw [Bool.and_eq_true] at h
      rw [of_decide_eq_true h.1, eq_of_beq h.2]
    · cases h
  · split at h
    · rfl
    · cases h
  · split at h
    · rw [Bool.and_eq_true] at h
      rw [eq_of_beq h.1, eq_of_beq h.2]
    · cases h
  · split at h
    · rfl
    · cases h
  · split at h
    · rfl
    · cases h
  · cases h
def eqZs : List Value → List Value → Bool
  | [], [] => true
  | x :: l, y :: m => eqZ x y && eqZs l m
  | _, _ => false
theorem eqZs_ok : ∀ {l m : List Value}, eqZs l m = true → l = m
  | [], [], _ => rfl
  | [], _ :: _, h => by cases h
  | _ :: _, [], h => by cases h
  | x :: l, y :: m, h => by
    unfold eqZs at h
    rw [Bool.and_eq_true] at h
    rw [eqZ_ok h.1, eqZs_ok h.2]
def fieldB (P : Program) (f : Field) (x : Nat × Nat × Bool) : Bool := Nat.beq f.offset x.1 && (match P.info? f.type with
  | some i => Nat.beq i.size x.2.1
  | none => false) && (match P.underlying f.type with
  | some d => d.isRow == x.2.2
  | none => false)
def fieldsB (P : Program) : List Field → List (Nat × Nat × Bool) → Bool
  | [], [] => true
  | f :: fs, x :: l => fieldB P f x && fieldsB P fs l
  | _, _ => false
theorem fieldsB_ok {P : Program} : ∀ {fs : List Field} {l : List (Nat × Nat × Bool)}, fieldsB P fs l = true → fs.length = l.length ∧ ∀ (j off sz : Nat) (ag : Bool), l[j]? = some (off, sz, ag) → ∃ f i d, fs[j]? = some f ∧ f.offset = off ∧ P.info? f.type = some i ∧ i.size = sz ∧ P.underlying f.type = some d ∧ d.isRow = ag
  | [], [], _ => ⟨rfl, by simp⟩
  | [], _ :: _, h => by cases h
  | _ :: _, [], h => by cases h
  | f :: fs, x :: l, h => by
    unfold fieldsB at h
    rw [Bool.and_eq_true] at h
    obtain ⟨h1, h2⟩ := fieldsB_ok h.2
    refine ⟨by simp [h1], fun j off sz ag hj => ?_⟩
    cases j with
    | succ j =>
      simp only [List.getElem?_cons_succ] at hj ⊢
      exact h2 j off sz ag hj
    | zero =>
      simp only [List.getElem?_cons_zero, Option.some.injEq] at hj
      subst hj
      have h3 := h.1
      unfold fieldB at h3
      rw [Bool.and_eq_true, Bool.and_eq_true] at h3
      obtain ⟨⟨h4, h5⟩, h6⟩ := h3
      cases hi : P.info? f.type with
      | none => rw [hi] at h5; cases h5
      | some i =>
        cases hd : P.underlying f.type with
        | none => rw [hd] at h6; cases h6
        | some d =>
          rw [hi] at h5
          rw [hd] at h6
          exact ⟨f, i, d, rfl, Nat.eq_of_beq_eq_true h4, hi, Nat.eq_of_beq_eq_true h5, hd, eq_of_beq h6⟩
def kindB (P : Program) (ti : TI) (d : TypeDesc) : Bool := match ti.kind with
  | 1 => (match d with | .struct fs => fieldsB P fs.toList ti.fields | _ => false)
  | 8 => (match d with | .struct fs => fieldsB P fs.toList ti.fields | _ => false)
  | 2 => (match d with | .array n e => Nat.beq n ti.alen && Nat.beq e ti.elem | _ => false)
  | 3 => (match d with | .slice e => Nat.beq e ti.elem | _ => false)
  | 4 => (match d with | .interface _ => true | _ => false)
  | 5 => (match d with | .pointer _ => true | _ => false)
  | 6 => (match d with | .bool => true | _ => false)
  | 7 => (match d with | .int _ => true | _ => false)
  | 9 => (match d with | .func _ _ _ => true | _ => false)
  | _ => true
theorem fieldsB_ok' {P : Program} {fs : Array Field} {l : List (Nat × Nat × Bool)} (h : fieldsB P fs.toList l = true) : FieldsOk P fs l := by
  obtain ⟨h1, h2⟩ := fieldsB_ok h
  refine ⟨by simpa using h1, fun j off sz ag hj => ?_⟩
  obtain ⟨f, i, d, h3, h4⟩ := h2 j off sz ag hj
  exact ⟨f, i, d, by simpa using h3, h4⟩
theorem kindB_ok {P : Program} {ti : TI} {d : TypeDesc} (h : kindB P ti d = true) : KindOk P ti d := by
  unfold kindB at h
  unfold KindOk
  split at h <;> rename_i hk <;> simp only [hk]
  · split at h
    · exact ⟨_, rfl, fieldsB_ok' h⟩
    · cases h
  · split at h
    · exact ⟨_, rfl, fieldsB_ok' h⟩
    · cases h
  · split at h
    · rw [Bool.and_eq_true] at h
      rw [Nat.eq_of_beq_eq_true h.1, Nat.eq_of_beq_eq_true h.2]
    · cases h
  · split at h
    · rw [Nat.eq_of_beq_eq_true h]
    · cases h
  · split at h
    · exact ⟨_, rfl⟩
    · cases h
  · split at h
    · exact ⟨_, rfl⟩
    · cases h
  · split at h
    · rfl
    · cases h
  · split at h
    · exact ⟨_, rfl⟩
    · cases h
  · split at h
    · exact ⟨_, _, _, rfl⟩
    · cases h
def ikB (o : Option IntKind) (d : TypeDesc) : Bool := match o with
  | none => true
  | some k => (match d with | .int k' => eqK k k' | _ => false)
def zaB (ag : Bool) (z : Value) : Bool := match ag with
  | true => (match z with | .agg _ => true | _ => false)
  | false => true
def ones : List Value → Bool
  | [] => true
  | v :: l => v.oneCell' && ones l
theorem ones_ok : ∀ {l : List Value}, ones l = true → ∀ v ∈ l, v.oneCell' = true
  | [], _ => by simp
  | x :: l, h => by
    unfold ones at h
    rw [Bool.and_eq_true] at h
    intro v hv
    rcases List.mem_cons.1 hv with rfl | hv
    · exact h.1
    · exact ones_ok h.2 v hv
def tyB3 (P : Program) (ti : TI) (d : TypeDesc) (i : TypeInfo) (z : Value) : Bool :=
  Nat.beq i.size ti.size && (Nat.beq i.bytes ti.bytes && (d.isRow == ti.agg && (eqZs z.cells.toList ti.zero && (zaB ti.agg z && (Nat.beq ti.zero.length ti.size && (ones ti.zero && (kindB P ti d && (ikB ti.ik d && (!Nat.beq ti.kind 7 || i.comparable)))))))))
def tyB (P : Program) (t : Nat) (ti : TI) : Bool := match P.underlying t, P.info? t with
  | some d, some i => (match i.zero with
    | some z => tyB3 P ti d i z
    | none => false)
  | _, _ => false
theorem tyB_ok {P : Program} {t : Nat} {ti : TI} (h : tyB P t ti = true) : ∃ d i z, TyOk P t ti d i z := by
  unfold tyB at h
  split at h
  · rename_i d i hd hi
    split at h
    · rename_i z hz
      unfold tyB3 at h
      simp only [Bool.and_eq_true] at h
      obtain ⟨h1, h2, h3, h4, h5, h6, h7, h8, h9, h10⟩ := h
      refine ⟨d, i, z, hd, hi, Nat.eq_of_beq_eq_true h1, Nat.eq_of_beq_eq_true h2, eq_of_beq h3, hz, eqZs_ok h4, fun ha => ?_, Nat.eq_of_beq_eq_true h6, ones_ok h7, kindB_ok h8, fun k hk => ?_, fun hk => ?_⟩
      · rw [ha] at h5
        unfold zaB at h5
        simp only at h5
        split at h5
        · exact ⟨_, rfl⟩
        · cases h5
      · rw [hk] at h9
        unfold ikB at h9
        simp only at h9
        split at h9
        · rw [of_decide_eq_true h9]
        · cases h9
      · rw [hk] at h10
        simpa using h10
    · cases h
  · cases h
theorem tys_ok {P : Program} {c : Cfg} {T : Bt TI} (hc : c.ty = T.get) (h : T.all (tyB P) = true) : TyAll P c := fun t ti ht => by
  rw [hc] at ht
  exact tyB_ok (Bt.get_all h ht)
def fnB (fn : Func) : Bool := !(fn.name == "runtime.NumGoroutine") && (match fn.body with
  | some b => codeOk b
  | none => true)
theorem fns_ok {P : Program} {c : Cfg} {T : Bt Func} (hc : c.fn = T.get) (h : T.all (fun _ fn => fnB fn) = true) (hP : T.All fun f fn => P.funcs[f]? = some fn) : FnsOk P c := fun f fn hf => by
  rw [hc] at hf
  have h1 := Bt.get_all h hf
  have h2 := Bt.get_All hP hf
  unfold fnB at h1
  rw [Bool.and_eq_true] at h1
  refine ⟨h2, by simpa using h1.1, fun b hb => ?_⟩
  have := h1.2
  rw [hb] at this
  exact this
end Go.Proofs.YtmlpimckfneliaaGreat.Ev
