/- A run reckoned beforehand: slots, wants, one operation of a region; regions in their own order. No conditions. -/
import Derived.Test.YtmlpimckfneliaaGreatEm
namespace Go.Proofs.YtmlpimckfneliaaGreat.Ev
theorem N8.get_set {α : Type} (t : N8 α) (i j : D8) (x : α) : (t.set i x).get j = if j = i then x else t.get j := by
  cases t
  cases i <;> cases j <;> rfl
theorem Tr.get3_set3 (t : Tr) (i j k i' j' k' : D8) (v : CV) : Tr.get3 (Tr.set3 t i j k v) i' j' k' = if i' = i ∧ j' = j ∧ k' = k then v else Tr.get3 t i' j' k' := by
  unfold Tr.get3 Tr.set3
  rw [N8.get_set]
  by_cases h1 : i' = i
  · subst h1
    rw [if_pos rfl, N8.get_set]
    by_cases h2 : j' = j
    · subst h2
      rw [if_pos rfl, N8.get_set]
      by_cases h3 : k' = k
      · rw [if_pos h3, if_pos ⟨rfl, rfl, h3⟩]
      · rw [if_neg h3, if_neg (fun h => h3 h.2.2)]
    · rw [if_neg h2, if_neg (fun h => h2 h.2.1)]
  · rw [if_neg h1, if_neg (fun h => h1 h.1)]
theorem dig_inj : ∀ a, a < 8 → ∀ b, b < 8 → dig a = dig b → a = b := by decide
theorem Tr.get_set (t : Tr) (k j : Nat) (v : CV) (hk : k < 512) (hj : j < 512) : (t.put k v).at' j = if j = k then v else t.at' j := by
  unfold Tr.at' Tr.put
  rw [Tr.get3_set3]
  by_cases h : j = k
  · subst h
    rw [if_pos ⟨rfl, rfl, rfl⟩, if_pos rfl]
  · rw [if_neg h, if_neg]
    rintro ⟨h1, h2, h3⟩
    have h1 : j / 64 = k / 64 := dig_inj (j / 64) (by omega) (k / 64) (by omega) h1
    have h2 : j / 8 % 8 = k / 8 % 8 := dig_inj (j / 8 % 8) (by omega) (k / 8 % 8) (by omega) h2
    have h3 : j % 8 = k % 8 := dig_inj (j % 8) (by omega) (k % 8) (by omega) h3
    omega
theorem putT_some {env env' : Tr} {sz t : Nat} {v : CV} (h : putT env sz (some t) v = some env') : t < sz ∧ env' = env.put t v ∧ t < 500 := by
  simp only [putT] at h
  split at h
  · rename_i hb
    simp only [Bool.and_eq_true] at hb
    have h1 := Nat.le_of_ble_eq_true hb.1
    have h2 := Nat.le_of_ble_eq_true hb.2
    refine ⟨h1, ?_, h2⟩
    split at h
    · rename_i a
      rw [frcA_eq] at h
      injection h with h
      exact h.symm
    · injection h with h
      exact h.symm
  · cases h
theorem lookT_lt {env : Tr} {sz t : Nat} {v : CV} (h : lookT env sz t = some v) : t < sz := by
  unfold lookT at h
  split at h
  · rename_i hb
    simp only [Bool.and_eq_true] at hb
    exact Nat.le_of_ble_eq_true hb.1
  · cases h
theorem lookT_at {env : Tr} {sz t : Nat} {v : CV} (h : lookT env sz t = some v) : t < 500 ∧ env.at' t = v := by
  unfold lookT at h
  split at h
  · rename_i hb
    simp only [Bool.and_eq_true] at hb
    injection h with h
    exact ⟨Nat.le_of_ble_eq_true hb.2, h⟩
  · cases h
theorem lookT_mk {env : Tr} {sz t : Nat} (h : t < sz) (h' : t < 500) : lookT env sz t = some (env.at' t) := by
  unfold lookT
  have e1 : Nat.blt t sz = true := Nat.ble_eq_true_of_le h
  have e2 : Nat.blt t 500 = true := Nat.ble_eq_true_of_le h'
  rw [e1, e2]
  rfl
theorem lookT_put {env env' : Tr} {sz : Nat} {d : Option Tmp} {v u : CV} {t : Nat} (h : putT env sz d v = some env') (hl : lookT env' sz t = some u) : (d = some t ∧ u = v) ∨ (d ≠ some t ∧ lookT env sz t = some u) := by
  cases d with
  | none =>
    injection h with h
    subst h
    exact .inr ⟨by simp, hl⟩
  | some t0 =>
    obtain ⟨h1, rfl, h3⟩ := putT_some h
    obtain ⟨h4, h5⟩ := lookT_at hl
    have h6 := lookT_lt hl
    rw [Tr.get_set _ _ _ _ (by omega) (by omega)] at h5
    by_cases he : t = t0
    · subst he
      rw [if_pos rfl] at h5
      exact .inl ⟨rfl, h5.symm⟩
    · refine .inr ⟨fun e => he (by injection e with e; exact e.symm), ?_⟩
      rw [if_neg he] at h5
      rw [lookT_mk h6 h4, h5]
theorem ofVal_d {s : Nat → Value} {r : Ren} (v : Value) : (ofVal v).d s r = some v := by
  unfold ofVal
  split
  · rename_i cs
    simp [CV.d, CP.d, dL_lits]
  · rename_i vs
    split
    · rename_i h
      have : vs = #[] := Array.ext' h
      rw [this]
      rfl
    · rfl
  · rfl
/-- slots as they are reckoned -/
structure EnvOk (s : Nat → Value) (r : Ren) (env : Tr) (sz : Nat) (a : Act) : Prop where
  defers : a.defers = []
  size : a.tmps.size = sz
  at' : ∀ t v, lookT env sz t = some v → v.d s r = some (a.tmps.getD t undef)
section
variable {P : Program} {s : Nat → Value} {r r' : Ren} {env env' : Tr} {sz : Nat} {a : Act} {ops : Array Oper} {o : Oper}
theorem EnvOk.sub (h : EnvOk s r env sz a) (hs : Sub r r') : EnvOk s r' env sz a := ⟨h.defers, h.size, fun t v hv => CV.d_sub hs (h.at' t v hv)⟩
theorem put_getD {d : Option Tmp} {V : Value} {t : Nat} (hd : d ≠ some t) : (a.put d V).tmps.getD t undef = a.tmps.getD t undef := by
  cases d with
  | none => rfl
  | some d =>
    have hne : d ≠ t := fun e => hd (by rw [e])
    simp [Act.put, Array.getElem?_setIfInBounds_ne hne]
theorem put_getD_same {V : Value} {t : Nat} (h : t < a.tmps.size) : (a.put (some t) V).tmps.getD t undef = V := by simp [Act.put, h]
theorem put_tsize (d : Option Tmp) (V : Value) : (a.put d V).tmps.size = a.tmps.size := by cases d <;> simp [Act.put]
theorem put_tdefers (d : Option Tmp) (V : Value) : (a.put d V).defers = a.defers := by cases d <;> rfl
theorem EnvOk.put {v : CV} {V : Value} {d : Option Tmp} (h : EnvOk s r env sz a) (hp : putT env sz d v = some env') (hv : v.d s r = some V) : EnvOk s r env' sz (a.put d V) := by
  refine ⟨by rw [put_tdefers]; exact h.defers, by rw [put_tsize]; exact h.size, fun t u hu => ?_⟩
  rcases lookT_put hp hu with ⟨h1, h2⟩ | ⟨h1, h2⟩
  · subst h1
    subst h2
    rw [put_getD_same (by rw [h.size]; exact (putT_some hp).1)]
    exact hv
  · rw [put_getD h1]
    exact h.at' t u h2
/-- an operand's slot -/
def Sees (ops : Array Oper) (o : Oper) (t : Nat) : Prop := .tmp t ∈ o.op.operands ∨ ∃ j w g, o.guard = some (j, w) ∧ ops[j]? = some g ∧ g.dst = some t
theorem evX_rl {x : Operand} (h : ∀ t v, x = .tmp t → lookT env sz t = some v → v.d s r = some (a.tmps.getD t undef)) : Rl s r (evX env sz) a x := by
  intro v hv
  cases x with
  | tmp t => exact h t v rfl hv
  | const u =>
    injection hv with hv
    subst hv
    exact ofVal_d u
  | func f =>
    injection hv with hv
    subst hv
    rfl
  | global g => cases hv
theorem want_ok {w : Bool} (h : ∀ t v, (∃ j w g, o.guard = some (j, w) ∧ ops[j]? = some g ∧ g.dst = some t) → lookT env sz t = some v → v.d s r = some (a.tmps.getD t undef)) (hz : a.tmps.size = sz) (hw : evWant ops.toList env sz o = some w) : Region.wanted o (yielded ops a.tmps) = w := by
  unfold evWant at hw
  unfold Region.wanted
  split at hw
  · rename_i hg
    injection hw with hw
    rw [hg]
    exact hw
  · rename_i j want hg
    rw [hg]
    split at hw
    · cases hw
    · rename_i g hj
      have hj : ops[j]? = some g := by simpa using hj
      split at hw
      · cases hw
      · rename_i t ht
        have key : ∀ v, lookT env sz t = some v → ∃ V, v.d s r = some V ∧ yielded ops a.tmps j = (match V with | .bool b => some b | _ => none) := by
          intro v hv
          have h1 := h t v ⟨j, want, g, hg, hj, ht⟩ hv
          have hlt := lookT_lt hv
          refine ⟨_, h1, ?_⟩
          unfold yielded
          have : a.tmps[t]? = some (a.tmps.getD t undef) := by
            have : t < a.tmps.size := by rw [hz]; exact hlt
            simp [this]
          simp only [hj, ht, Option.bind_some, this]
          cases a.tmps.getD t undef <;> rfl
        split at hw
        · rename_i b hv
          injection hw with hw
          obtain ⟨V, h1, h2⟩ := key _ hv
          have := lit_of h1
          subst this
          simp only [h2]
          rw [← hw]
          cases b <;> cases want <;> rfl
        · rename_i hv
          injection hw with hw
          obtain ⟨V, h1, h2⟩ := key _ hv
          have hV : V = .tuple #[] := by
            injection h1 with h1
            exact h1.symm
          subst hV
          simp only [h2]
          rw [← hw]
          rfl
        · cases hw
theorem memN_iff : ∀ {l : List Nat} {n : Nat}, memN l n = true ↔ n ∈ l
  | [], n => by simp [memN]
  | x :: l, n => by
    unfold memN
    split
    · rename_i h
      have := Nat.eq_of_beq_eq_true h
      simp [this]
    · rename_i h
      have hne : n ≠ x := fun e => by subst e; simp at h
      rw [memN_iff]
      simp [hne]
theorem dropH_mem : ∀ {H : Hp} {T : List Nat} {p : Nat × CB}, p ∈ dropH H T ↔ p ∈ H ∧ p.1 ∉ T
  | [], T, p => by simp [dropH]
  | q :: l, T, p => by
    unfold dropH
    split
    · rename_i h
      rw [dropH_mem, List.mem_cons]
      constructor
      · rintro ⟨h1, h2⟩
        exact ⟨.inr h1, h2⟩
      · rintro ⟨rfl | h1, h2⟩
        · exact absurd (memN_iff.1 h) h2
        · exact ⟨h1, h2⟩
    · rename_i h
      have h : q.1 ∉ T := fun h' => by rw [memN_iff.2 h'] at h; cases h
      rw [List.mem_cons, List.mem_cons, dropH_mem]
      constructor
      · rintro (rfl | ⟨h1, h2⟩)
        · exact ⟨.inl rfl, h⟩
        · exact ⟨.inr h1, h2⟩
      · rintro ⟨rfl | h1, h2⟩
        · exact .inl rfl
        · exact .inr ⟨h1, h2⟩
theorem nextH_mem {H : Hp} {out : Out} {p : Nat × CB} (hU : ∀ p ∈ out.U, p.1 ∈ out.T) : p ∈ nextH H out ↔ p ∈ out.news ++ out.U ∨ (p ∈ H ∧ p.1 ∉ out.T) := by
  unfold nextH
  split
  · rename_i hT
    have hU0 : out.U = [] := by
      cases hU1 : out.U with
      | nil => rfl
      | cons q l =>
        have := hU q (by rw [hU1]; simp)
        rw [hT] at this
        cases this
    rw [hU0, hT]
    split
    · rename_i hn
      rw [hn]
      simp
    · simp
  · simp [dropH_mem, or_assoc]
theorem addN_mem : ∀ {m l : List Nat} {n0 b : Nat}, b ∈ addN l n0 m ↔ b ∈ l ∨ (b ∈ m ∧ b < n0)
  | [], l, n0, b => by simp [addN]
  | x :: m, l, n0, b => by
    unfold addN
    split
    · rename_i h
      simp only [Bool.and_eq_true] at h
      have h1 : x < n0 := Nat.le_of_ble_eq_true h.1
      rw [addN_mem, List.mem_cons, List.mem_cons]
      constructor
      · rintro ((rfl | h) | ⟨h, h'⟩)
        · exact .inr ⟨.inl rfl, h1⟩
        · exact .inl h
        · exact .inr ⟨.inr h, h'⟩
      · rintro (h | ⟨rfl | h, h'⟩)
        · exact .inl (.inr h)
        · exact .inl (.inl rfl)
        · exact .inr ⟨h, h'⟩
    · rename_i h
      rw [addN_mem, List.mem_cons]
      constructor
      · rintro (h | ⟨h, h'⟩)
        · exact .inl h
        · exact .inr ⟨.inr h, h'⟩
      · rintro (h' | ⟨rfl | h', h''⟩)
        · exact .inl h'
        · left
          rw [show Nat.blt b n0 = true from Nat.ble_eq_true_of_le h'', Bool.true_and] at h
          exact memN_iff.1 (by simpa using h)
        · exact .inr ⟨h', h''⟩
theorem namesH_mem : ∀ {H : Hp} {b : Nat}, b ∈ namesH H ↔ ∃ k, (b, k) ∈ H
  | [], b => by simp [namesH]
  | p :: l, b => by
    unfold namesH
    rw [List.mem_cons, namesH_mem]
    constructor
    · rintro (rfl | ⟨k, h⟩)
      · exact ⟨p.2, by simp⟩
      · exact ⟨k, by simp [h]⟩
    · rintro ⟨k, h⟩
      rcases List.mem_cons.1 h with rfl | h
      · exact .inl rfl
      · exact .inr ⟨k, h⟩
end
end Go.Proofs.YtmlpimckfneliaaGreat.Ev
