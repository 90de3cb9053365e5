/- A run reckoned beforehand: the operations are as they are reckoned (reads, writes, new blocks). No conditions. -/
import Derived.Test.YtmlpimckfneliaaGreatEb
import Derived.Deep.MidRow
namespace Go.Proofs.YtmlpimckfneliaaGreat.Ev
def FieldsOk (P : Program) (fs : Array Field) (l : List (Nat × Nat × Bool)) : Prop :=
  fs.size = l.length ∧ ∀ (j off sz : Nat) (ag : Bool), l[j]? = some (off, sz, ag) → ∃ f i d, fs[j]? = some f ∧ f.offset = off ∧ P.info? f.type = some i ∧ i.size = sz ∧ P.underlying f.type = some d ∧ d.isRow = ag
def KindOk (P : Program) (ti : TI) (d : TypeDesc) : Prop := match ti.kind with
  | 1 => ∃ fs, d = .struct fs ∧ FieldsOk P fs ti.fields
  | 8 => ∃ fs, d = .struct fs ∧ FieldsOk P fs ti.fields
  | 2 => d = .array ti.alen ti.elem
  | 3 => d = .slice ti.elem
  | 4 => ∃ ms, d = .interface ms
  | 5 => ∃ e, d = .pointer e
  | 6 => d = .bool
  | 7 => ∃ k, d = .int k
  | 9 => ∃ a b v, d = .func a b v
  | _ => True
structure TyOk (P : Program) (t : Nat) (ti : TI) (d : TypeDesc) (i : TypeInfo) (z : Value) : Prop where
  und : P.underlying t = some d
  info : P.info? t = some i
  size : i.size = ti.size
  bytes : i.bytes = ti.bytes
  row : d.isRow = ti.agg
  zero : i.zero = some z
  cells : z.cells.toList = ti.zero
  zagg : ti.agg = true → ∃ cs, z = .agg cs
  zlen : ti.zero.length = ti.size
  one : ∀ v ∈ ti.zero, v.oneCell' = true
  kind : KindOk P ti d
  ik : ∀ k, ti.ik = some k → d = .int k
  cmp : ti.kind = 7 → i.comparable = true
/-- what is asked of an order: its operands are known as they are -/
def Rl (s : Nat → Value) (r : Ren) (ev : EvF) (a : Act) (x : Operand) : Prop := ∀ v, ev x = some v → v.d s r = some (a.eval x)
def OpSim (P : Program) (s : Nat → Value) (o : Oper) (ev : EvF) (n : Nat) (out : Out) : Prop :=
  ∀ (r : Ren) (a : Act) (W : World), (∀ x ∈ o.op.operands, Rl s r ev a x) → Low out.rd n → Free r n out.nx → Fits s r out.rd W →
    ∀ (K : Act → World → Prop) (Q : Exit → Act → World → Prop), (∀ r' V W', Post r n W out.T r' out.nx W' → out.v.d s r' = some V → Fits s r' (out.news ++ out.U) W' → K (a.put o.dst V) W') → o.wp P a W K Q
structure OpStat (H : Hp) (n : Nat) (out : Out) : Prop where
  rd : ∀ p ∈ out.rd, p ∈ H
  le : n ≤ out.nx
  news : ∀ p ∈ out.news, n ≤ p.1 ∧ p.1 < out.nx
  U : ∀ p ∈ out.U, p.1 ∈ out.T
  T : ∀ b ∈ out.T, ∃ k, (b, k) ∈ out.rd
section
variable {P : Program} {s : Nat → Value} {o : Oper} {ev : EvF} {H : Hp} {n : Nat} {out : Out}
theorem fits_nil {r : Ren} {W : World} : Fits s r [] W := ⟨by simp, fun _ hp => by simp at hp⟩
theorem stat_pure {v : CV} : OpStat H n (pure1 v n) := ⟨by simp [pure1], Nat.le_refl _, by simp [pure1], by simp [pure1], by simp [pure1]⟩
theorem sim_pure {v : CV} (h : ∀ (r : Ren) (a : Act) (W : World), (∀ x ∈ o.op.operands, Rl s r ev a x) → ∃ V, v.d s r = some V ∧ (execOp a.eval o).run P W = .ok (.value V) W) : OpSim P s o ev n (pure1 v n) := by
  intro r a W hrel _ _ _ K Q hK
  obtain ⟨V, h1, h2⟩ := h r a W hrel
  unfold Oper.wp
  rw [h2]
  exact hK r V W (Post.refl r n W) h1 fits_nil
theorem stat_read {v : CV} {b : Nat} {k : CB} (hb : (b, k) ∈ H) : OpStat H n ⟨v, [], n, [], [], [(b, k)]⟩ := ⟨by simpa using hb, Nat.le_refl _, by simp, by simp, by simp⟩
theorem sim_read {v : CV} {rd : Hp} (h : ∀ (r : Ren) (a : Act) (W : World), (∀ x ∈ o.op.operands, Rl s r ev a x) → Fits s r rd W → ∃ V, v.d s r = some V ∧ (execOp a.eval o).run P W = .ok (.value V) W) : OpSim P s o ev n ⟨v, [], n, [], [], rd⟩ := by
  intro r a W hrel _ _ hF K Q hK
  obtain ⟨V, h1, h2⟩ := h r a W hrel hF
  unfold Oper.wp
  rw [h2]
  exact hK r V W (Post.refl r n W) h1 fits_nil
/-- a name for a block that is made now -/
def nam (r : Ren) (n B cap : Nat) : Ren := fun b => if b = n then some (B, cap) else r b
theorem nam_at (r : Ren) (n B cap : Nat) : nam r n B cap n = some (B, cap) := by simp [nam]
theorem nam_sub {r : Ren} {n B cap : Nat} (h : r n = none) : Sub r (nam r n B cap) := fun b x hx => by
  unfold nam
  split
  · rename_i e
    rw [e, h] at hx
    cases hx
  · exact hx
theorem post_new {r : Ren} {W : World} {c : Array Value} {t : TypeId} (cap : Nat) : Post r n W [] (nam r n W.heap.size cap) (n + 1) (W.alloc (.cells c t)) := by
  refine ⟨by omega, fun b hb => ?_, rfl, rfl, rfl, by simp, fun B hB _ => ?_, fun b B c' h1 h2 h3 => ?_⟩
  · unfold nam
    rw [if_neg (by omega)]
  · show (W.heap.push _)[B]? = _
    rw [Array.getElem?_push_lt hB, Array.getElem?_eq_getElem hB]
  · obtain rfl : b = n := by omega
    rw [nam_at] at h3
    injection h3 with h3
    injection h3 with h3 _
    left
    omega
theorem fits_new {r : Ren} {W : World} {cs : List CA} {vs : List Value} {t : TypeId} (hd : dL s r cs = some vs) (hf : r n = none) (cap : Nat) : Fits s (nam r n W.heap.size cap) [(n, ⟨t, cs, none⟩)] (W.alloc (.cells vs.toArray t)) := by
  refine ⟨fun p hp B c' hB => ?_, fun p hp q hq B c c' _ _ => ?_⟩
  · rw [List.mem_singleton] at hp
    subst hp
    rw [nam_at] at hB
    injection hB with hB
    injection hB with hB hc
    refine ⟨vs, vs.toArray, dL_sub (nam_sub hf) hd, ?_, Room.exact vs⟩
    show (W.heap.push _)[B]? = _
    rw [← hB, Array.getElem?_push_size]
  · rw [List.mem_singleton] at hp hq
    rw [hp, hq]
theorem stat_new {v : CV} {k : CB} : OpStat H n ⟨v, [(n, k)], Nat.succ n, [], [], []⟩ := ⟨by simp, Nat.le_succ _, by simp, by simp, by simp⟩
theorem sim_new {va : CA} {cs : List CA} {t : TypeId} (cap : Nat) (h : ∀ (r : Ren) (a : Act) (W : World), (∀ x ∈ o.op.operands, Rl s r ev a x) →
    ∃ vs V, dL s r cs = some vs ∧ va.d s (nam r n W.heap.size cap) = some V ∧ (execOp a.eval o).run P W = .ok (.value V) (W.alloc (.cells vs.toArray t))) : OpSim P s o ev n ⟨pv va, [(n, ⟨t, cs, none⟩)], Nat.succ n, [], [], []⟩ := by
  intro r a W hrel _ hfree _ K Q hK
  obtain ⟨vs, V, h1, h2, h3⟩ := h r a W hrel
  unfold Oper.wp
  rw [h3]
  exact hK (nam r n W.heap.size cap) V _ (post_new cap) h2 (fits_new h1 (hfree n (Nat.le_refl _) (Nat.lt_succ_self _)) cap)
theorem findH_mem : ∀ {H : Hp} {b : Nat} {k : CB}, findH H b = some k → (b, k) ∈ H
  | [], _, _, h => by cases h
  | p :: l, b, k, h => by
    unfold findH at h
    split at h
    · rename_i hb
      injection h with h
      have := Nat.eq_of_beq_eq_true hb
      subst this
      subst h
      exact List.mem_cons_self ..
    · exact List.mem_cons_of_mem _ (findH_mem h)
/-- a block's cells, where it lies -/
theorem Fits.cells {r : Ren} {W : World} {b : Nat} {k : CB} {B cap : Nat} (h : Fits s r [(b, k)] W) (hr : r b = some (B, cap)) : ∃ vs, dL s r k.cs = some vs ∧ W.rangeAt B 0 vs ∧ W.there B 0 vs.length := by
  obtain ⟨vs, cur, h1, h2, h3⟩ := h.fit (b, k) (List.mem_singleton.2 rfl) B cap hr
  have hc : cur.toList.take vs.length = vs := h3.1
  have key : ∀ j, j < vs.length → W.cell? ⟨B, 0 + j, none⟩ = vs[j]? := by
    intro j hj
    have e : (cur.toList.take vs.length)[j]? = vs[j]? := by rw [hc]
    rw [List.getElem?_take_of_lt hj] at e
    rw [Nat.zero_add, show W.cell? ⟨B, j, none⟩ = cur[j]? by simp [World.cell?, h2], ← e]
    simp
  refine ⟨vs, h1, fun j v hv => ?_, fun j hj => ⟨?_, ?_⟩⟩
  · have hj : j < vs.length := (List.getElem?_eq_some_iff.1 hv).1
    rw [key j hj, hv]
  · rw [key j hj, List.getElem?_eq_getElem hj]
    rfl
  · simp [World.frozen?, h2]
theorem rangeAt_mid {W : World} {B : Nat} {vs : List Value} (h : W.rangeAt B 0 vs) (off n : Nat) : W.rangeAt B off ((vs.drop off).take n) := by
  intro j v hv
  have hj : j < n := by
    rcases Nat.lt_or_ge j n with h' | h'
    · exact h'
    · rw [List.getElem?_take_eq_none h'] at hv; cases hv
  rw [List.getElem?_take_of_lt hj, List.getElem?_drop] at hv
  have := h (off + j) v hv
  rwa [Nat.zero_add] at this
theorem there_mid {W : World} {B n m off : Nat} (h : W.there B 0 n) (hl : off + m ≤ n) : W.there B off m := by
  intro j hj
  have := h (off + j) (by omega)
  rwa [Nat.zero_add] at this
end
end Go.Proofs.YtmlpimckfneliaaGreat.Ev
