/- A run reckoned beforehand: values whose blocks have names, worlds that fit them. No conditions. -/
import Derived.StillTail
import Derived.Deep.AppendLies
namespace Go.Proofs.YtmlpimckfneliaaGreat.Ev
/-- one cell's value -/
inductive CA where
  | lit (v : Value)
  | sym (n : Nat)
  | ptr (b off : Nat)
  | sl (b off len cap : Nat)
  | slu (b off len sub : Nat)
  | fn (f : FuncId) (ps : List (Nat × Nat))
/-- a value: one cell, or a struct's or an array's cells -/
inductive CP where
  | one (a : CA)
  | ag (cs : List CA)
inductive CV where
  | p (c : CP)
  | tup (l : List CP)
/-- where a name's block lies, and its room -/
abbrev Ren := Nat → Option (Nat × Nat)
def dPtr (r : Ren) : List (Nat × Nat) → Option (List Value)
  | [] => some []
  | p :: l => match r p.1, dPtr r l with
    | some x, some vs => some (.pointer (some ⟨x.1, p.2, none⟩) :: vs)
    | _, _ => none
def CA.d (s : Nat → Value) (r : Ren) : CA → Option Value
  | .lit v => some v
  | .sym n => some (s n)
  | .ptr b off => (r b).map fun x => .pointer (some ⟨x.1, off, none⟩)
  | .sl b off len cap => (r b).map fun x => .slice (some ⟨x.1, off, none⟩) len cap
  | .slu b off len sub => (r b).map fun x => .slice (some ⟨x.1, off, none⟩) len (x.2 - sub)
  | .fn f ps => (dPtr r ps).map fun vs => .func (.func f) #[] vs.toArray
def dL (s : Nat → Value) (r : Ren) : List CA → Option (List Value)
  | [] => some []
  | a :: l => match a.d s r, dL s r l with
    | some v, some vs => some (v :: vs)
    | _, _ => none
def CP.d (s : Nat → Value) (r : Ren) : CP → Option Value
  | .one a => a.d s r
  | .ag cs => (dL s r cs).map fun vs => .agg vs.toArray
def dPs (s : Nat → Value) (r : Ren) : List CP → Option (List Value)
  | [] => some []
  | a :: l => match a.d s r, dPs s r l with
    | some v, some vs => some (v :: vs)
    | _, _ => none
def CV.d (s : Nat → Value) (r : Ren) : CV → Option Value
  | .p c => c.d s r
  | .tup l => (dPs s r l).map fun vs => .tuple vs.toArray
/-- a block: its elements' type, its cells, whether there is room behind them (in elements of so many cells) -/
structure CB where
  t : TypeId
  cs : List CA
  sl : Option Nat
abbrev Hp := List (Nat × CB)
/-- nothing that was named is named otherwise -/
def Sub (r r' : Ren) : Prop := ∀ b x, r b = some x → r' b = some x
theorem Sub.refl (r : Ren) : Sub r r := fun _ _ h => h
theorem Sub.trans {r r1 r2 : Ren} (h : Sub r r1) (h' : Sub r1 r2) : Sub r r2 := fun b x hx => h' b x (h b x hx)
section
variable {s : Nat → Value} {r r' : Ren}
theorem dPtr_sub (h : Sub r r') : ∀ {l : List (Nat × Nat)} {vs : List Value}, dPtr r l = some vs → dPtr r' l = some vs
  | [], _, hv => hv
  | p :: l, _, hv => by
    unfold dPtr at hv ⊢
    split at hv
    · rename_i x us h1 h2
      rw [h p.1 x h1, dPtr_sub h h2]
      exact hv
    · cases hv
theorem CA.d_sub (h : Sub r r') {a : CA} {v : Value} (hv : a.d s r = some v) : a.d s r' = some v := by
  cases a with
  | lit u => exact hv
  | sym n => exact hv
  | ptr b off =>
    simp only [CA.d, Option.map_eq_some_iff] at hv ⊢
    obtain ⟨x, hx, rfl⟩ := hv
    exact ⟨x, h b x hx, rfl⟩
  | sl b off len cap =>
    simp only [CA.d, Option.map_eq_some_iff] at hv ⊢
    obtain ⟨x, hx, rfl⟩ := hv
    exact ⟨x, h b x hx, rfl⟩
  | slu b off len sub =>
    simp only [CA.d, Option.map_eq_some_iff] at hv ⊢
    obtain ⟨x, hx, rfl⟩ := hv
    exact ⟨x, h b x hx, rfl⟩
  | fn f ps =>
    simp only [CA.d, Option.map_eq_some_iff] at hv ⊢
    obtain ⟨x, hx, rfl⟩ := hv
    exact ⟨x, dPtr_sub h hx, rfl⟩
theorem dL_cons {a : CA} {l : List CA} {vs : List Value} (h : dL s r (a :: l) = some vs) : ∃ v us, a.d s r = some v ∧ dL s r l = some us ∧ vs = v :: us := by
  unfold dL at h
  split at h
  · rename_i v us h1 h2
    injection h with h
    exact ⟨v, us, h1, h2, h.symm⟩
  · cases h
theorem dL_mk {a : CA} {l : List CA} {v : Value} {us : List Value} (h1 : a.d s r = some v) (h2 : dL s r l = some us) : dL s r (a :: l) = some (v :: us) := by
  unfold dL
  rw [h1, h2]
theorem dPs_cons {a : CP} {l : List CP} {vs : List Value} (h : dPs s r (a :: l) = some vs) : ∃ v us, a.d s r = some v ∧ dPs s r l = some us ∧ vs = v :: us := by
  unfold dPs at h
  split at h
  · rename_i v us h1 h2
    injection h with h
    exact ⟨v, us, h1, h2, h.symm⟩
  · cases h
theorem dPs_mk {a : CP} {l : List CP} {v : Value} {us : List Value} (h1 : a.d s r = some v) (h2 : dPs s r l = some us) : dPs s r (a :: l) = some (v :: us) := by
  unfold dPs
  rw [h1, h2]
theorem dL_sub (h : Sub r r') : ∀ {l : List CA} {vs : List Value}, dL s r l = some vs → dL s r' l = some vs
  | [], _, hv => hv
  | _ :: _, _, hv => by
    obtain ⟨v, us, h1, h2, rfl⟩ := dL_cons hv
    exact dL_mk (CA.d_sub h h1) (dL_sub h h2)
theorem CP.d_sub (h : Sub r r') {c : CP} {v : Value} (hv : c.d s r = some v) : c.d s r' = some v := by
  cases c with
  | one a => exact CA.d_sub h hv
  | ag cs =>
    simp only [CP.d, Option.map_eq_some_iff] at hv ⊢
    obtain ⟨x, hx, rfl⟩ := hv
    exact ⟨x, dL_sub h hx, rfl⟩
theorem dPs_sub (h : Sub r r') : ∀ {l : List CP} {vs : List Value}, dPs s r l = some vs → dPs s r' l = some vs
  | [], _, hv => hv
  | _ :: _, _, hv => by
    obtain ⟨v, us, h1, h2, rfl⟩ := dPs_cons hv
    exact dPs_mk (CP.d_sub h h1) (dPs_sub h h2)
theorem CV.d_sub (h : Sub r r') {c : CV} {v : Value} (hv : c.d s r = some v) : c.d s r' = some v := by
  cases c with
  | p c => exact CP.d_sub h hv
  | tup l =>
    simp only [CV.d, Option.map_eq_some_iff] at hv ⊢
    obtain ⟨x, hx, rfl⟩ := hv
    exact ⟨x, dPs_sub h hx, rfl⟩
theorem dL_len : ∀ {l : List CA} {vs : List Value}, dL s r l = some vs → vs.length = l.length
  | [], _, hv => by injection hv with hv; subst hv; rfl
  | _ :: _, _, hv => by
    obtain ⟨v, us, h1, h2, rfl⟩ := dL_cons hv
    simp [dL_len h2]
theorem dL_get : ∀ {l : List CA} {vs : List Value} {i : Nat} {a : CA}, dL s r l = some vs → l[i]? = some a → ∃ v, vs[i]? = some v ∧ a.d s r = some v
  | [], _, i, _, _, ha => by simp at ha
  | x :: l, _, i, a, hv, ha => by
    obtain ⟨v, us, h1, h2, rfl⟩ := dL_cons hv
    cases i with
    | zero =>
      simp only [List.getElem?_cons_zero, Option.some.injEq] at ha
      subst ha
      exact ⟨v, rfl, h1⟩
    | succ i =>
      simp only [List.getElem?_cons_succ] at ha ⊢
      exact dL_get h2 ha
theorem dL_set : ∀ {l : List CA} {vs : List Value} (i : Nat) {a : CA} {v : Value}, dL s r l = some vs → a.d s r = some v → dL s r (l.set i a) = some (vs.set i v)
  | [], _, i, _, _, hv, _ => by injection hv with hv; subst hv; rfl
  | x :: l, _, i, a, u, hv, ha => by
    obtain ⟨v, us, h1, h2, rfl⟩ := dL_cons hv
    cases i with
    | zero => exact dL_mk ha h2
    | succ i => exact dL_mk h1 (dL_set i h2 ha)
theorem dL_app : ∀ {l m : List CA} {vs us : List Value}, dL s r l = some vs → dL s r m = some us → dL s r (l ++ m) = some (vs ++ us)
  | [], _, _, _, hv, hm => by injection hv with hv; subst hv; exact hm
  | x :: l, m, _, us, hv, hm => by
    obtain ⟨v, ws, h1, h2, rfl⟩ := dL_cons hv
    exact dL_mk h1 (dL_app h2 hm)
theorem dL_take : ∀ {l : List CA} {vs : List Value} (n : Nat), dL s r l = some vs → dL s r (l.take n) = some (vs.take n)
  | [], _, n, hv => by injection hv with hv; subst hv; simp [dL]
  | x :: l, _, n, hv => by
    obtain ⟨v, ws, h1, h2, rfl⟩ := dL_cons hv
    cases n with
    | zero => rfl
    | succ n => exact dL_mk h1 (dL_take n h2)
theorem dL_drop : ∀ {l : List CA} {vs : List Value} (n : Nat), dL s r l = some vs → dL s r (l.drop n) = some (vs.drop n)
  | [], _, n, hv => by injection hv with hv; subst hv; simp [dL]
  | x :: l, _, n, hv => by
    cases n with
    | zero => exact hv
    | succ n =>
      obtain ⟨v, ws, h1, h2, rfl⟩ := dL_cons hv
      exact dL_drop n h2
end
/-- a block's cells are such, and such room is behind them -/
def Room (sl : Option Nat) (cap : Nat) (vs : List Value) (cur : Array Value) : Prop :=
  cur.toList.take vs.length = vs ∧ (match sl with
    | none => cur.size = vs.length
    | some m => vs.length ≤ cap * m ∧ cur.size = cap * m ∧ cap ≤ maxLen)
theorem Room.exact {cap : Nat} (vs : List Value) : Room none cap vs vs.toArray := ⟨by simp, by simp⟩
theorem Room.le {sl : Option Nat} {cap : Nat} {vs : List Value} {cur : Array Value} (h : Room sl cap vs cur) : vs.length ≤ cur.size := by
  have e : (cur.toList.take vs.length).length = vs.length := by rw [h.1]
  simp only [List.length_take, Array.length_toList] at e
  omega
theorem Room.like {sl : Option Nat} {cap : Nat} {vs vs' : List Value} {cur cur' : Array Value} (h : Room sl cap vs cur) (h1 : cur'.toList.take vs'.length = vs') (h2 : vs'.length = vs.length) (h3 : cur'.size = cur.size) : Room sl cap vs' cur' := by
  refine ⟨h1, ?_⟩
  rw [h2, h3]
  exact h.2
/-- worlds that fit -/
def Fit1 (s : Nat → Value) (r : Ren) (W : World) (p : Nat × CB) : Prop :=
  ∀ B cap, r p.1 = some (B, cap) → ∃ vs cur, dL s r p.2.cs = some vs ∧ W.heap[B]? = some (.cells cur p.2.t (0, 0)) ∧
    Room p.2.sl cap vs cur
def Apart (r : Ren) (H : Hp) : Prop := ∀ p ∈ H, ∀ q ∈ H, ∀ B c c', r p.1 = some (B, c) → r q.1 = some (B, c') → p.1 = q.1
structure Fits (s : Nat → Value) (r : Ren) (H : Hp) (W : World) : Prop where
  fit : ∀ p ∈ H, Fit1 s r W p
  apart : Apart r H
/-- all names are below a number -/
def Low (H : Hp) (n : Nat) : Prop := ∀ p ∈ H, p.1 < n
theorem Low.mono {H : Hp} {n n' : Nat} (h : Low H n) (hn : n ≤ n') : Low H n' := fun p hp => Nat.lt_of_lt_of_le (h p hp) hn
def Free (r : Ren) (n n' : Nat) : Prop := ∀ b, n ≤ b → b < n' → r b = none
/-- between two worlds: new names lie between two numbers; of what lay there only the named blocks are written -/
structure Post (r : Ren) (n : Nat) (W : World) (T : List Nat) (r' : Ren) (n' : Nat) (W' : World) : Prop where
  le : n ≤ n'
  ext : ∀ b, b < n ∨ n' ≤ b → r' b = r b
  os : W'.os = W.os
  tape : W'.tape = W.tape
  output : W'.output = W.output
  size : W.heap.size ≤ W'.heap.size
  same : ∀ B, B < W.heap.size → (∀ b ∈ T, ∀ c, r b ≠ some (B, c)) → W'.heap[B]? = W.heap[B]?
  fresh : ∀ b B c, n ≤ b → b < n' → r' b = some (B, c) → W.heap.size ≤ B ∨ ∃ b0 ∈ T, ∃ c0, r b0 = some (B, c0)
section
variable {r r1 r2 : Ren} {n n1 n2 : Nat} {W W1 W2 : World} {T T1 T2 : List Nat}
theorem Post.refl (r : Ren) (n : Nat) (W : World) : Post r n W [] r n W :=
  ⟨Nat.le_refl _, fun _ _ => rfl, rfl, rfl, rfl, Nat.le_refl _, fun _ _ _ => rfl, fun _ _ _ h1 h2 _ => absurd (Nat.lt_of_le_of_lt h1 h2) (Nat.lt_irrefl _)⟩
theorem Post.sub (h : Post r n W T r1 n1 W1) (hf : Free r n n1) : Sub r r1 := fun b x hx => by
  rw [h.ext b ?_]
  · exact hx
  · rcases Nat.lt_or_ge b n with h1 | h1
    · exact .inl h1
    · rcases Nat.lt_or_ge b n1 with h2 | h2
      · rw [hf b h1 h2] at hx; cases hx
      · exact .inr h2
theorem Post.drew (r : Ren) (n : Nat) (W : World) : Post r n W [] r n W.drew :=
  ⟨Nat.le_refl _, fun _ _ => rfl, rfl, rfl, rfl, Nat.le_refl _, fun _ _ _ => rfl, fun _ _ _ h1 h2 _ => absurd (Nat.lt_of_le_of_lt h1 h2) (Nat.lt_irrefl _)⟩
theorem Post.trans {T : List Nat} (h : Post r n W T1 r1 n1 W1) (h' : Post r1 n1 W1 T2 r2 n2 W2) (hT1 : ∀ b ∈ T1, b ∈ T) (hT2 : ∀ b ∈ T2, b < n1 ∧ (b < n → b ∈ T)) : Post r n W T r2 n2 W2 := by
  refine ⟨Nat.le_trans h.le h'.le, fun b hb => ?_, h'.os.trans h.os, h'.tape.trans h.tape, h'.output.trans h.output, Nat.le_trans h.size h'.size, fun B hB hT => ?_, fun b B c hb1 hb2 hb => ?_⟩
  · have h1 := h.le
    have h2 := h'.le
    rw [h'.ext b (by omega), h.ext b (by omega)]
  · rw [h'.same B (Nat.lt_of_lt_of_le hB h.size) ?_, h.same B hB fun b hb => hT b (hT1 b hb)]
    intro b hb c hc
    obtain ⟨q1, q2⟩ := hT2 b hb
    rcases Nat.lt_or_ge b n with hlt | hge
    · rw [h.ext b (.inl hlt)] at hc
      exact hT b (q2 hlt) c hc
    · rcases h.fresh b B c hge q1 hc with h3 | ⟨b0, h4, c0, h5⟩
      · omega
      · exact hT b0 (hT1 b0 h4) c0 h5
  · rcases Nat.lt_or_ge b n1 with hlt | hge
    · rw [h'.ext b (.inl hlt)] at hb
      rcases h.fresh b B c hb1 hlt hb with h3 | ⟨b0, h4, c0, h5⟩
      · exact .inl h3
      · exact .inr ⟨b0, hT1 b0 h4, c0, h5⟩
    · rcases h'.fresh b B c hge hb2 hb with h3 | ⟨b0, h4, c0, h5⟩
      · exact .inl (Nat.le_trans h.size h3)
      · obtain ⟨q1, q2⟩ := hT2 b0 h4
        rcases Nat.lt_or_ge b0 n with hlt0 | hge0
        · rw [h.ext b0 (.inl hlt0)] at h5
          exact .inr ⟨b0, q2 hlt0, c0, h5⟩
        · rcases h.fresh b0 B c0 hge0 q1 h5 with h6 | ⟨b1, h7, c1, h8⟩
          · exact .inl h6
          · exact .inr ⟨b1, hT1 b1 h7, c1, h8⟩
end
theorem heap_lt' {W : World} {B : Nat} {o : Obj} (h : W.heap[B]? = some o) : B < W.heap.size := by
  rcases Nat.lt_or_ge B W.heap.size with h' | h'
  · exact h'
  · rw [Array.getElem?_eq_none h'] at h; cases h
section
variable {s : Nat → Value} {r r' : Ren} {H H' : Hp} {n n' : Nat} {W W' : World} {T : List Nat}
theorem Fits.sublist (h : Fits s r H W) (hs : ∀ p ∈ H', p ∈ H) : Fits s r H' W :=
  ⟨fun p hp => h.fit p (hs p hp), fun p hp q hq => h.apart p (hs p hp) q (hs q hq)⟩
theorem Fits.at (h : Fits s r H W) {b B cap : Nat} {k : CB} (hp : (b, k) ∈ H) (hr : r b = some (B, cap)) : ∃ vs cur, dL s r k.cs = some vs ∧ W.heap[B]? = some (.cells cur k.t (0, 0)) ∧ Room k.sl cap vs cur := h.fit (b, k) hp B cap hr
/-- what was not written fits still -/
theorem Fits.keep (h : Fits s r H W) (hl : Low H n) (hP : Post r n W T r' n' W') (hf : Free r n n') (hT : ∀ p ∈ H', p ∈ H ∧ p.1 ∉ T) (hTH : ∀ b ∈ T, ∃ k, (b, k) ∈ H) : Fits s r' H' W' := by
  have hs := hP.sub hf
  have hr : ∀ p ∈ H, r' p.1 = r p.1 := fun p hp => hP.ext p.1 (.inl (hl p hp))
  refine ⟨fun p hp B cap hB => ?_, fun p hp q hq B c c' h1 h2 => ?_⟩
  · obtain ⟨h1, h2⟩ := hT p hp
    rw [hr p h1] at hB
    obtain ⟨vs, cur, h3, h4, h5⟩ := h.fit p h1 B cap hB
    refine ⟨vs, cur, dL_sub hs h3, ?_, h5⟩
    rw [hP.same B (heap_lt' h4) ?_]
    · exact h4
    · intro b hb c hc
      obtain ⟨k, hk⟩ := hTH b hb
      have := h.apart p h1 (b, k) hk B cap c hB hc
      exact h2 (this ▸ hb)
  · rw [hr p (hT p hp).1] at h1
    rw [hr q (hT q hq).1] at h2
    exact h.apart p (hT p hp).1 q (hT q hq).1 B c c' h1 h2
theorem Fits.next (h : Fits s r H W) (hl : Low H n) (hP : Post r n W [] r' n' W') (hf : Free r n n') : Fits s r' H W' :=
  h.keep hl hP hf (fun p hp => ⟨hp, by simp⟩) (by simp)
/-- blocks beside those that are there -/
theorem Fits.beside {N : Hp} (h : Fits s r H W) (hl : Low H n) (hP : Post r n W [] r' n' W') (hf : Free r n n') (hN : Fits s r' N W') (hn : ∀ p ∈ N, n ≤ p.1 ∧ p.1 < n') : Fits s r' (N ++ H) W' := by
  have h' := h.next hl hP hf
  have hfar : ∀ p ∈ N, ∀ q ∈ H, ∀ B c c', r' p.1 = some (B, c) → r' q.1 = some (B, c') → False := by
    intro p hp q hq B c c' h1 h2
    rw [hP.ext q.1 (.inl (hl q hq))] at h2
    obtain ⟨vs, cur, _, h4, _⟩ := h.fit q hq B c' h2
    rcases hP.fresh p.1 B c (hn p hp).1 (hn p hp).2 h1 with h5 | ⟨b0, h6, _⟩
    · exact absurd (heap_lt' h4) (Nat.not_lt.2 h5)
    · cases h6
  refine ⟨fun p hp => ?_, fun p hp q hq B c c' h1 h2 => ?_⟩
  · rcases List.mem_append.1 hp with hp | hp
    · exact hN.fit p hp
    · exact h'.fit p hp
  · rcases List.mem_append.1 hp with hp | hp <;> rcases List.mem_append.1 hq with hq | hq
    · exact hN.apart p hp q hq B c c' h1 h2
    · exact (hfar p hp q hq B c c' h1 h2).elim
    · exact (hfar q hq p hp B c' c h2 h1).elim
    · exact h'.apart p hp q hq B c c' h1 h2
end
end Go.Proofs.YtmlpimckfneliaaGreat.Ev
