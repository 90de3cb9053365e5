/- A run reckoned beforehand: regions in any order. No conditions. -/
import Derived.Test.YtmlpimckfneliaaGreatEo
namespace Go.Proofs.YtmlpimckfneliaaGreat.Ev
/-- what has been made last, among some steps -/
def Cur (S : Nat → Prop) (xs : List Sp) (mk tc : Sp → Prop) (ini : Prop) : Prop :=
  (∃ (j : Nat) (y : Sp), S j ∧ xs[j]? = some y ∧ mk y ∧ ∀ (i : Nat) (z : Sp), S i → j < i → xs[i]? = some z → ¬ tc z) ∨ (ini ∧ ∀ (i : Nat) (z : Sp), S i → xs[i]? = some z → ¬ tc z)
section
variable {S S' : Nat → Prop} {xs : List Sp} {mk tc : Sp → Prop} {ini : Prop}
theorem Cur.more {i : Nat} {x : Sp} (hx : xs[i]? = some x) (hS : ∀ j, S' j ↔ j = i ∨ S j) (h : Cur S' xs mk tc ini) : mk x ∨ (Cur S xs mk tc ini ∧ (tc x → ∃ (j : Nat) (y : Sp), S j ∧ i < j ∧ xs[j]? = some y ∧ mk y)) := by
  rcases h with ⟨j, y, h1, h2, h3, h4⟩ | ⟨h1, h2⟩
  · by_cases hj : j = i
    · subst hj
      rw [hx] at h2
      injection h2 with h2
      exact .inl (h2 ▸ h3)
    · have hSj : S j := ((hS j).1 h1).resolve_left hj
      refine .inr ⟨.inl ⟨j, y, hSj, h2, h3, fun k z hk => h4 k z ((hS k).2 (.inr hk))⟩, fun ht => ⟨j, y, hSj, ?_, h2, h3⟩⟩
      rcases Nat.lt_or_ge i j with h5 | h5
      · exact h5
      · exact absurd ht (h4 i x ((hS i).2 (.inl rfl)) (by omega) hx)
  · exact .inr ⟨.inr ⟨h1, fun k z hk => h2 k z ((hS k).2 (.inr hk))⟩, fun ht => absurd ht (h2 i x ((hS i).2 (.inl rfl)) hx)⟩
/-- what a step found is there still, where all that matters to it has come up and nothing behind it has -/
theorem Cur.move {i : Nat} (h : Cur (· < i) xs mk tc ini) (hb : ∀ (j : Nat) (y : Sp), j < i → xs[j]? = some y → mk y → S j) (ha : ∀ (j : Nat) (z : Sp), S j → i ≤ j → xs[j]? = some z → ¬ tc z) : Cur S xs mk tc ini := by
  rcases h with ⟨j, y, h1, h2, h3, h4⟩ | ⟨h1, h2⟩
  · refine .inl ⟨j, y, hb j y h1 h2 h3, h2, h3, fun k z hk hjk hz => ?_⟩
    rcases Nat.lt_or_ge k i with h5 | h5
    · exact h4 k z h5 hjk hz
    · exact ha k z hk h5 hz
  · refine .inr ⟨h1, fun k z hk hz => ?_⟩
    rcases Nat.lt_or_ge k i with h5 | h5
    · exact h2 k z h5 hz
    · exact ha k z hk h5 hz
theorem Cur.none (h : Cur (fun _ => False) xs mk tc ini) : ini := by
  rcases h with ⟨_, _, h1, _⟩ | ⟨h1, _⟩
  · exact h1.elim
  · exact h1
end
def mkH (p : Nat × CB) (y : Sp) : Prop := p ∈ y.out.news ++ y.out.U
def tcH (b : Nat) (z : Sp) : Prop := b ∈ z.out.T
def mkS (t : Nat) (v : CV) (y : Sp) : Prop := y.dst = some t ∧ y.out.v = v
def tcS (t : Nat) (z : Sp) : Prop := z.dst = some t
section
variable {P : Program} {s : Nat → Value} {c : Cfg} {call : CallF} {n0 : Nat} {ops : Array Oper}
theorem Cur.shift {S : Nat → Prop} {x : Sp} {xs : List Sp} {mk tc : Sp → Prop} {ini ini' : Prop} (h : Cur (fun j => S (j + 1)) xs mk tc ini') (h0 : S 0) (hi : ini' → mk x ∨ (ini ∧ ¬ tc x)) : Cur S (x :: xs) mk tc ini := by
  rcases h with ⟨j, y, h1, h2, h3, h4⟩ | ⟨h1, h2⟩
  · refine .inl ⟨j + 1, y, h1, by simpa using h2, h3, fun k z hk hjk hz => ?_⟩
    cases k with
    | zero => omega
    | succ k => exact h4 k z hk (by omega) (by simpa using hz)
  · rcases hi h1 with h3 | ⟨h3, h4⟩
    · refine .inl ⟨0, x, h0, rfl, h3, fun k z hk hjk hz => ?_⟩
      cases k with
      | zero => omega
      | succ k => exact h2 k z hk (by simpa using hz)
    · refine .inr ⟨h3, fun k z hk hz => ?_⟩
      cases k with
      | zero =>
        simp only [List.getElem?_cons_zero, Option.some.injEq] at hz
        exact hz ▸ h4
      | succ k => exact h2 k z hk (by simpa using hz)
theorem chain_H (hcall : CallsOk P s call) (hc : CfgOk P s c) {p : Nat × CB} : ∀ {l : List Oper} {st st' : St} {xs : List Sp}, Chain c call n0 ops l st xs st' → Low st.H st.n → n0 ≤ st.n →
    (∀ (j : Nat) (x : Sp), xs[j]? = some x → p ∈ x.st.H → Cur (· < j) xs (mkH p) (tcH p.1) (p ∈ st.H)) ∧ (p ∈ st'.H → Cur (fun _ => True) xs (mkH p) (tcH p.1) (p ∈ st.H))
  | [], st, st', xs, h, hl, _ => by
    obtain ⟨rfl, rfl⟩ := h
    exact ⟨by simp, fun h => .inr ⟨h, by simp⟩⟩
  | o :: l, st, st', xs, h, hl, hn => by
    have hS := chain_steps hcall hc h hl hn
    obtain ⟨x, xs', rfl, rfl, hx, h⟩ := h
    have hst := (hS.stat 0 x rfl).1
    have hle := hst.le
    obtain ⟨h1, h2⟩ := chain_H hcall hc (p := p) h (by rw [hx.H, hx.n]; exact low_next hl hst) (by rw [hx.n]; omega)
    have key : p ∈ x.st'.H → mkH p x ∨ (p ∈ x.st.H ∧ ¬ tcH p.1 x) := by
      intro hp
      rw [hx.H] at hp
      exact (nextH_mem hst.U).1 hp
    refine ⟨fun j y hy hp => ?_, fun hp => (h2 hp).shift trivial key⟩
    cases j with
    | zero =>
      simp only [List.getElem?_cons_zero, Option.some.injEq] at hy
      subst hy
      exact .inr ⟨hp, fun i z hi => absurd hi (by omega)⟩
    | succ j =>
      have := h1 j y (by simpa using hy) hp
      refine Cur.shift (ini' := p ∈ x.st'.H) ?_ (by omega) key
      have e : (fun i => i + 1 < j + 1) = (· < j) := by funext i; simp
      rw [e]
      exact this
theorem chain_S {t : Nat} {v : CV} : ∀ {l : List Oper} {st st' : St} {xs : List Sp}, Chain c call n0 ops l st xs st' →
    (∀ (j : Nat) (x : Sp), xs[j]? = some x → lookT x.st.env x.st.sz t = some v → Cur (· < j) xs (mkS t v) (tcS t) (lookT st.env st.sz t = some v)) ∧ (lookT st'.env st'.sz t = some v → Cur (fun _ => True) xs (mkS t v) (tcS t) (lookT st.env st.sz t = some v))
  | [], st, st', xs, h => by
    obtain ⟨rfl, rfl⟩ := h
    exact ⟨by simp, fun h => .inr ⟨h, by simp⟩⟩
  | o :: l, st, st', xs, h => by
    obtain ⟨x, xs', rfl, rfl, hx, h⟩ := h
    obtain ⟨h1, h2⟩ := chain_S (t := t) (v := v) h
    have key : lookT x.st'.env x.st'.sz t = some v → mkS t v x ∨ (lookT x.st.env x.st.sz t = some v ∧ ¬ tcS t x) := by
      intro hp
      rw [hx.sz] at hp
      rcases lookT_put hx.put hp with ⟨h3, h4⟩ | ⟨h3, h4⟩
      · exact .inl ⟨h3, h4.symm⟩
      · exact .inr ⟨h4, h3⟩
    refine ⟨fun j y hy hp => ?_, fun hp => (h2 hp).shift trivial key⟩
    cases j with
    | zero =>
      simp only [List.getElem?_cons_zero, Option.some.injEq] at hy
      subst hy
      exact .inr ⟨hp, fun i z hi => absurd hi (by omega)⟩
    | succ j =>
      have := h1 j y (by simpa using hy) hp
      refine Cur.shift (ini' := lookT x.st'.env x.st'.sz t = some v) ?_ (by omega) key
      have e : (fun i => i + 1 < j + 1) = (· < j) := by funext i; simp
      rw [e]
      exact this
theorem chain_at : ∀ {l : List Oper} {st st' : St} {xs : List Sp}, Chain c call n0 ops l st xs st' → xs.length = l.length ∧ ∀ (j : Nat) (o : Oper) (x : Sp), l[j]? = some o → xs[j]? = some x → StepAt c call n0 ops o x
  | [], st, st', xs, h => by
    obtain ⟨rfl, rfl⟩ := h
    exact ⟨rfl, by simp⟩
  | o :: l, st, st', xs, h => by
    obtain ⟨x, xs', rfl, rfl, hx, h⟩ := h
    obtain ⟨h1, h2⟩ := chain_at h
    refine ⟨by simp [h1], fun j p y hp hy => ?_⟩
    cases j with
    | zero =>
      simp only [List.getElem?_cons_zero, Option.some.injEq] at hp hy
      subst hp
      subst hy
      exact hx
    | succ j => exact h2 j p y (by simpa using hp) (by simpa using hy)
end
/-- one waits for another, itself or through others -/
theorem fold_bits (acc : List Nat) {i : Nat} : ∀ (es : List Edge) (m : Nat), (es.foldl (fun s e => if Region.binds .any e then Nat.lor (Nat.lor s (Nat.pow 2 e.on)) (acc.getD e.on 0) else s) m).testBit i = true →
    m.testBit i = true ∨ ∃ e ∈ es, Region.binds .any e = true ∧ (e.on = i ∨ (acc.getD e.on 0).testBit i = true)
  | [], _, h => .inl h
  | e :: es, m, h => by
    rcases fold_bits acc es _ h with h | ⟨e', h1, h2, h3⟩
    · replace h : (if Region.binds .any e = true then Nat.lor (Nat.lor m (Nat.pow 2 e.on)) (acc.getD e.on 0) else m).testBit i = true := h
      split at h
      · rename_i hb
        have h' : ((m ||| 2 ^ e.on) ||| acc.getD e.on 0).testBit i = true := h
        rw [Nat.testBit_or, Nat.testBit_or, Nat.testBit_two_pow, Bool.or_eq_true, Bool.or_eq_true] at h'
        rcases h' with (h' | h') | h'
        · exact .inl h'
        · exact .inr ⟨e, by simp, hb, .inl (by simpa using h')⟩
        · exact .inr ⟨e, by simp, hb, .inr h'⟩
      · exact .inl h
    · exact .inr ⟨e', by simp [h1], h2, h3⟩
theorem masks_at : ∀ (l : List Oper) (acc : List Nat) , (∀ i, i < acc.length → (masks l acc)[i]? = acc[i]?) ∧
    ∀ (j : Nat) (o : Oper), l[j]? = some o → ∀ i, ((masks l acc).getD (acc.length + j) 0).testBit i = true → ∃ e ∈ o.after, Region.binds .any e = true ∧ (e.on = i ∨ (e.on < acc.length + j ∧ ((masks l acc).getD e.on 0).testBit i = true))
  | [], acc => ⟨fun _ _ => rfl, by simp⟩
  | p :: l, acc => by
    obtain ⟨h1, h2⟩ := masks_at l (acc ++ [p.after.toList.foldl (fun s e => if Region.binds .any e then Nat.lor (Nat.lor s (Nat.pow 2 e.on)) (acc.getD e.on 0) else s) 0])
    have hpre : ∀ i, i < acc.length → (masks (p :: l) acc)[i]? = acc[i]? := by
      intro i hi
      have := h1 i (by simp; omega)
      rw [List.getElem?_append_left hi] at this
      exact this
    refine ⟨hpre, fun j o ho i hb => ?_⟩
    cases j with
    | zero =>
      simp only [List.getElem?_cons_zero, Option.some.injEq] at ho
      subst ho
      have h3 := h1 acc.length (by simp)
      simp only [List.getElem?_append_right (Nat.le_refl _), Nat.sub_self, List.getElem?_cons_zero] at h3
      rw [Nat.add_zero, List.getD_eq_getElem?_getD, show (masks (p :: l) acc)[acc.length]? = _ from h3, Option.getD_some] at hb
      rcases fold_bits acc _ _ hb with h4 | ⟨e, h4, h5, h6⟩
      · simp at h4
      · refine ⟨e, by simpa using h4, h5, ?_⟩
        rcases h6 with h6 | h6
        · exact .inl h6
        · right
          have hlt : e.on < acc.length := by
            rcases Nat.lt_or_ge e.on acc.length with h7 | h7
            · exact h7
            · rw [List.getD_eq_getElem?_getD, List.getElem?_eq_none h7] at h6
              simp at h6
          refine ⟨by omega, ?_⟩
          rw [List.getD_eq_getElem?_getD] at h6 ⊢
          rw [hpre _ hlt]
          exact h6
    | succ j =>
      have h3 := h2 j o (by simpa using ho) i
      simp only [List.length_append, List.length_singleton] at h3
      rw [show acc.length + (j + 1) = acc.length + 1 + j by omega] at hb ⊢
      exact h3 hb
def DownC (ops : Array Oper) (S : Nat → Prop) : Prop := ∀ (j : Nat) (o : Oper), S j → ops[j]? = some o → ∀ e ∈ o.after, Region.binds .any e = true → S e.on
theorem ord_in {ops : Array Oper} {S : Nat → Prop} (hS : DownC ops S) : ∀ (j : Nat) (o : Oper), ops[j]? = some o → (∀ e ∈ o.after, Region.binds .any e = true → S e.on) → ∀ i, ((masks ops.toList []).getD j 0).testBit i = true → S i := by
  intro j
  induction j using Nat.strongRecOn with
  | _ j ih =>
    intro o ho hp i hb
    obtain ⟨e, h1, h2, h3⟩ := (masks_at ops.toList []).2 j o (by simpa using ho) i (by simpa using hb)
    have hSe := hp e h1 h2
    rcases h3 with h3 | ⟨h3, h4⟩
    · exact h3 ▸ hSe
    · simp only [List.length_nil, Nat.zero_add] at h3
      have hlt : j < ops.size := (Array.getElem?_eq_some_iff.1 ho).1
      obtain ⟨o', ho'⟩ : ∃ o', ops[e.on]? = some o' := ⟨_, Array.getElem?_eq_getElem (by omega)⟩
      exact ih e.on h3 o' ho' (fun e' he' hb' => hS e.on o' hSe ho' e' he' hb') i h4
end Go.Proofs.YtmlpimckfneliaaGreat.Ev
