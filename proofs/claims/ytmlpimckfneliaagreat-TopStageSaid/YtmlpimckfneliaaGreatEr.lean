/- A run reckoned beforehand: a body's code, a function. No conditions. -/
import Derived.Test.YtmlpimckfneliaaGreatEq
import Derived.LoopN
namespace Go.Proofs.YtmlpimckfneliaaGreat.Ev
def codeOk : Code → Bool
  | .region _ ops draw => !draw || regOk ops
  | .seq a b => codeOk a && codeOk b
  | .cond _ a b => codeOk a && codeOk b
  | .block _ a => codeOk a
  | .loop a => codeOk a
  | _ => true
def Ex.to : Ex → Exit
  | .nm => .normal
  | .ex id => .exit id
  | .rt => .ret
structure Grow (n0 : Nat) (st st' : St) : Prop where
  low : Low st'.H st'.n
  le : st.n ≤ st'.n
  sz : st'.sz = st.sz
  T : ∀ b ∈ st.T, b ∈ st'.T
  T0 : ∀ b ∈ st'.T, b ∈ st.T ∨ (b < n0 ∧ ∃ k, (b, k) ∈ st.H)
  nm : ∀ p ∈ st'.H, p.1 < n0 → ∃ k, (p.1, k) ∈ st.H
theorem Steps.grow {n0 : Nat} {st st' : St} {xs : List Sp} (h : Steps n0 st xs st') : Grow n0 st st' := ⟨h.low, h.le, h.sz, h.T, h.T0, h.nm⟩
theorem Grow.refl {n0 : Nat} {st : St} (h : Low st.H st.n) : Grow n0 st st := ⟨h, Nat.le_refl _, rfl, fun _ h => h, fun _ h => .inl h, fun p hp _ => ⟨p.2, hp⟩⟩
theorem Grow.trans {n0 : Nat} {st st1 st2 : St} (h : Grow n0 st st1) (h' : Grow n0 st1 st2) : Grow n0 st st2 :=
  ⟨h'.low, Nat.le_trans h.le h'.le, h'.sz.trans h.sz, fun b hb => h'.T b (h.T b hb), fun b hb => (h'.T0 b hb).elim (h.T0 b) (fun ⟨h1, k, h2⟩ => .inr ⟨h1, h.nm (b, k) h2 h1⟩), fun p hp h0 => by
    obtain ⟨k, hk⟩ := h'.nm p hp h0
    exact h.nm (p.1, k) hk h0⟩
/-- what a piece of code does, as it is reckoned -/
structure CodeSim (P : Program) (s : Nat → Value) (n0 : Nat) (code : Code) (st : St) (ex : Ex) (st' : St) : Prop where
  grow : Grow n0 st st'
  wp : ∀ {N : Nat} {Tf : List Nat} {r0 : Ren} {W0 : World} {Q : Exit → Act → World → Prop}, st'.n ≤ N → (∀ b ∈ st'.T, b ∈ Tf) → ∀ {r : Ren} {a : Act} {W : World}, Rel s r0 n0 W0 Tf N r st a W → (∀ r' a' W', Rel s r0 n0 W0 Tf N r' st' a' W' → Q ex.to a' W') → code.wp P Q a W
section
variable {P : Program} {s : Nat → Value} {c : Cfg} {call : CallF} {n0 : Nat}
theorem iter_ok {f : St → Option (Ex × St)} {code : Code} (hf : ∀ {st st' : St} {ex : Ex}, f st = some (ex, st') → Low st.H st.n → n0 ≤ st.n → CodeSim P s n0 code st ex st') : ∀ (k : Nat) {st st' : St} {ex : Ex}, iter f k st = some (ex, st') → Low st.H st.n → n0 ≤ st.n →
    ex ≠ .nm ∧ Grow n0 st st' ∧ ∀ {N : Nat} {Tf : List Nat} {r0 : Ren} {W0 : World} {Q : Exit → Act → World → Prop}, st'.n ≤ N → (∀ b ∈ st'.T, b ∈ Tf) → ∀ {r : Ren} {a : Act} {W : World}, Rel s r0 n0 W0 Tf N r st a W → (∀ r' a' W', Rel s r0 n0 W0 Tf N r' st' a' W' → Q ex.to a' W') → Code.rounds P code Q k a W
  | 0, st, st', ex, h, _, _ => by cases h
  | k + 1, st, st', ex, h, hl, hn => by
    unfold iter at h
    split at h
    · rename_i st1 h1
      have hc := hf h1 hl hn
      obtain ⟨h2, h3, h4⟩ := iter_ok hf k h hc.grow.low (Nat.le_trans hn hc.grow.le)
      refine ⟨h2, hc.grow.trans h3, fun {N Tf r0 W0 Q} hN hT {r a W} hR hQ => ?_⟩
      refine hc.wp (Nat.le_trans h3.le hN) (fun b hb => hT b (h3.T b hb)) hR fun r' a' W' hR' => ?_
      exact h4 hN hT hR' hQ
    · rename_i r' hne
      have hc := hf h hl hn
      refine ⟨fun e => ?_, hc.grow, fun {N Tf r0 W0 Q} hN hT {r a W} hR hQ => ?_⟩
      · subst e
        exact hne st' h
      · refine hc.wp hN hT hR fun r' a' W' hR' => ?_
        have := hQ r' a' W' hR'
        cases ex with
        | nm => exact (hne st' h).elim
        | ex id => exact this
        | rt => exact this
theorem code_ok (hm : P.follows .mixedOrders = true) (hcall : CallsOk P s call) (hc : CfgOk P s c) : ∀ (code : Code) {st st' : St} {ex : Ex}, evCode c call n0 code st = some (ex, st') → codeOk code = true → Low st.H st.n → n0 ≤ st.n → CodeSim P s n0 code st ex st' := by
  intro code
  induction code with
  | skip =>
    intro st st' ex h _ hl _
    simp only [evCode, Option.some.injEq, Prod.mk.injEq] at h
    obtain ⟨rfl, rfl⟩ := h
    exact ⟨.refl hl, fun _ _ _ _ _ hR hQ => wp_skip (hQ _ _ _ hR)⟩
  | label l =>
    intro st st' ex h _ hl _
    simp only [evCode, Option.some.injEq, Prod.mk.injEq] at h
    obtain ⟨rfl, rfl⟩ := h
    exact ⟨.refl hl, fun _ _ _ _ _ hR hQ => wp_label (hQ _ _ _ hR)⟩
  | exit id =>
    intro st st' ex h _ hl _
    simp only [evCode, Option.some.injEq, Prod.mk.injEq] at h
    obtain ⟨rfl, rfl⟩ := h
    exact ⟨.refl hl, fun _ _ _ _ _ hR hQ => wp_exit (hQ _ _ _ hR)⟩
  | ret =>
    intro st st' ex h _ hl _
    simp only [evCode, Option.some.injEq, Prod.mk.injEq] at h
    obtain ⟨rfl, rfl⟩ := h
    exact ⟨.refl hl, fun _ _ _ _ _ hR hQ => wp_ret (hQ _ _ _ hR)⟩
  | region id ops draw =>
    intro st st' ex h hok hl hn
    unfold evCode at h
    split at h
    · rename_i st1 h1
      simp only [Option.some.injEq, Prod.mk.injEq] at h
      obtain ⟨rfl, rfl⟩ := h
      obtain ⟨⟨xs, hS⟩, hw⟩ := region_wp (id := id) hm hcall hc (fun hd => by simpa [codeOk, hd] using hok) h1 hl hn
      exact ⟨hS.grow, fun {N Tf r0 W0 Q} hN hT {r a W} hR hQ => hw hN hT hR hQ⟩
    · cases h
  | seq x y ihx ihy =>
    intro st st' ex h hok hl hn
    simp only [codeOk, Bool.and_eq_true] at hok
    unfold evCode at h
    split at h
    · rename_i st1 h1
      have hx := ihx h1 hok.1 hl hn
      have hy := ihy h hok.2 hx.grow.low (Nat.le_trans hn hx.grow.le)
      refine ⟨hx.grow.trans hy.grow, fun {N Tf r0 W0 Q} hN hT {r a W} hR hQ => wp_seq ?_⟩
      refine hx.wp (Nat.le_trans hy.grow.le hN) (fun b hb => hT b (hy.grow.T b hb)) hR fun r' a' W' hR' => ?_
      exact hy.wp hN hT hR' hQ
    · rename_i hne
      have hx := ihx h hok.1 hl hn
      refine ⟨hx.grow, fun {N Tf r0 W0 Q} hN hT {r a W} hR hQ => wp_seq ?_⟩
      refine hx.wp hN hT hR fun r' a' W' hR' => ?_
      have := hQ r' a' W' hR'
      cases ex with
      | nm => exact (hne st' h).elim
      | ex id => exact this
      | rt => exact this
  | cond x y z ihy ihz =>
    intro st st' ex h hok hl hn
    simp only [codeOk, Bool.and_eq_true] at hok
    have key : ∀ {b : Bool} {r0 r : Ren} {N : Nat} {Tf : List Nat} {W0 W : World} {a : Act}, evX st.env st.sz x = some (.p (.one (.lit (.bool b)))) → Rel s r0 n0 W0 Tf N r st a W → a.eval x = .bool b := by
      intro b r0 r N Tf W0 W a hx hR
      have := evX_rl (s := s) (r := r) (a := a) (x := x) (fun t v _ hv => hR.env.at' t v hv) _ hx
      exact lit_of this
    unfold evCode at h
    split at h
    · rename_i hx
      have hy := ihy h hok.1 hl hn
      exact ⟨hy.grow, fun {N Tf r0 W0 Q} hN hT {r a W} hR hQ => wp_cond_true (key hx hR) (hy.wp hN hT hR hQ)⟩
    · rename_i hx
      have hy := ihz h hok.2 hl hn
      exact ⟨hy.grow, fun {N Tf r0 W0 Q} hN hT {r a W} hR hQ => wp_cond_false (key hx hR) (hy.wp hN hT hR hQ)⟩
    · cases h
  | block id x ih =>
    intro st st' ex h hok hl hn
    have hok : codeOk x = true := hok
    unfold evCode at h
    split at h
    · rename_i i st1 h1
      have hx := ih h1 hok hl hn
      split at h
      · rename_i hi
        simp only [Option.some.injEq, Prod.mk.injEq] at h
        obtain ⟨rfl, rfl⟩ := h
        refine ⟨hx.grow, fun {N Tf r0 W0 Q} hN hT {r a W} hR hQ => wp_block (hx.wp hN hT hR fun r' a' W' hR' => ?_)⟩
        simp only [Ex.to, Exit.inBlock]
        rw [if_pos (Nat.eq_of_beq_eq_true hi)]
        exact hQ _ _ _ hR'
      · rename_i hi
        simp only [Option.some.injEq, Prod.mk.injEq] at h
        obtain ⟨rfl, rfl⟩ := h
        refine ⟨hx.grow, fun {N Tf r0 W0 Q} hN hT {r a W} hR hQ => wp_block (hx.wp hN hT hR fun r' a' W' hR' => ?_)⟩
        simp only [Ex.to, Exit.inBlock]
        rw [if_neg (Nat.ne_of_beq_eq_false hi)]
        exact hQ _ _ _ hR'
    · rename_i hne
      have hx := ih h hok hl hn
      refine ⟨hx.grow, fun {N Tf r0 W0 Q} hN hT {r a W} hR hQ => wp_block (hx.wp hN hT hR fun r' a' W' hR' => ?_)⟩
      have := hQ r' a' W' hR'
      cases ex with
      | nm => exact this
      | ex id => exact (hne _ _ h).elim
      | rt => exact this
  | loop x ih =>
    intro st st' ex h hok hl hn
    have hok : codeOk x = true := hok
    unfold evCode at h
    obtain ⟨_, h2, h3⟩ := iter_ok (code := x) (fun h1 hl hn => ih h1 hok hl hn) 700 h hl hn
    exact ⟨h2, fun {N Tf r0 W0 Q} hN hT {r a W} hR hQ => wp_loop_rounds 700 (h3 hN hT hR hQ)⟩
  | _ => intro st st' ex h; cases h
theorem takeH_mem {b : Nat} : ∀ {H : Hp} {k : CB} {H' : Hp}, takeH b H = some (k, H') → (b, k) ∈ H ∧ ∀ p ∈ H', p ∈ H
  | [], _, _, h => by cases h
  | p :: l, k, H', h => by
    unfold takeH at h
    split at h
    · rename_i hb
      simp only [Option.some.injEq, Prod.mk.injEq] at h
      obtain ⟨rfl, rfl⟩ := h
      have := Nat.eq_of_beq_eq_true hb
      subst this
      exact ⟨List.mem_cons_self .., fun q hq => List.mem_cons_of_mem _ hq⟩
    · split at h
      · rename_i k' l' h1
        simp only [Option.some.injEq, Prod.mk.injEq] at h
        obtain ⟨rfl, rfl⟩ := h
        obtain ⟨h2, h3⟩ := takeH_mem h1
        refine ⟨List.mem_cons_of_mem _ h2, fun q hq => ?_⟩
        rcases List.mem_cons.1 hq with rfl | hq
        · exact List.mem_cons_self ..
        · exact List.mem_cons_of_mem _ (h3 q hq)
      · cases h
theorem gc_mem : ∀ (f : Nat) {w : List Nat} {pool acc : Hp} {p : Nat × CB}, p ∈ gc c f w pool acc → p ∈ pool ∨ p ∈ acc
  | 0, w, pool, acc, p, h => List.mem_append.1 h
  | f + 1, [], pool, acc, p, h => .inr h
  | f + 1, b :: w, pool, acc, p, h => by
    unfold gc at h
    split at h
    · exact gc_mem f h
    · rename_i k pool' h1
      obtain ⟨h2, h3⟩ := takeH_mem h1
      rcases gc_mem f h with h4 | h4
      · exact .inl (h3 p h4)
      · rcases List.mem_cons.1 h4 with rfl | h4
        · exact .inl h2
        · exact .inr h4
theorem freshH_mem : ∀ {H : Hp} {p : Nat × CB}, p ∈ freshH n0 H → p ∈ H ∧ n0 ≤ p.1
  | [], p, h => by cases h
  | q :: l, p, h => by
    unfold freshH at h
    split at h
    · rename_i hb
      rcases List.mem_cons.1 h with rfl | h
      · exact ⟨List.mem_cons_self .., Nat.le_of_ble_eq_true hb⟩
      · exact ⟨List.mem_cons_of_mem _ (freshH_mem h).1, (freshH_mem h).2⟩
    · exact ⟨List.mem_cons_of_mem _ (freshH_mem h).1, (freshH_mem h).2⟩
theorem keptH_mem {T : List Nat} : ∀ {H : Hp} {p : Nat × CB}, p ∈ keptH T H → p ∈ H ∧ p.1 ∈ T
  | [], p, h => by cases h
  | q :: l, p, h => by
    unfold keptH at h
    split at h
    · rename_i hb
      rcases List.mem_cons.1 h with rfl | h
      · exact ⟨List.mem_cons_self .., memN_iff.1 hb⟩
      · exact ⟨List.mem_cons_of_mem _ (keptH_mem h).1, (keptH_mem h).2⟩
    · exact ⟨List.mem_cons_of_mem _ (keptH_mem h).1, (keptH_mem h).2⟩
/-- what a variable that holds a result gives -/
def ResOk (P : Program) (tmps : Array Value) (W : World) (x : ResultVar) (V : Value) : Prop := match x with
  | .tmp t => tmps.getD t undef = V
  | .cell t ty => ∃ p, tmps.getD t undef = .pointer (some p) ∧ (loadVar ty p).run P W = .ok V W
theorem resOf_ok (hc : CfgOk P s c) {st : St} {x : ResultVar} {v : CV} (h : resOf c st x = some v) {r : Ren} {a : Act} {W : World} (hF : Fits s r st.H W) (hE : EnvOk s r st.env st.sz a) : ∃ V, v.d s r = some V ∧ ResOk P a.tmps W x V := by
  unfold resOf at h
  split at h
  · rename_i t
    exact ⟨_, hE.at' t v h, rfl⟩
  · rename_i t ty
    split at h
    · rename_i ti b off hti hl
      split at h
      · cases h
      · rename_i k hk
        obtain ⟨d, i, z, hT⟩ := hc.ty ty ti hti
        obtain ⟨B, cap, hr, he⟩ := ptr_of (hE.at' t _ hl)
        obtain ⟨V, h1, h2⟩ := loadP_ok hT h (hF.sublist (H' := [(b, k)]) (by simpa using findH_mem hk)) hr
        exact ⟨V, h1, _, he, h2⟩
    · cases h
def ResAll (P : Program) (tmps : Array Value) (W : World) : List ResultVar → List Value → Prop
  | [], [] => True
  | x :: l, v :: vs => ResOk P tmps W x v ∧ ResAll P tmps W l vs
  | _, _ => False
theorem results_run {fn : Func} {tmps : Array Value} {W : World} {vs : List Value} (h : ResAll P tmps W fn.results.toList vs) : (results fn tmps).run P W = .ok (if h : vs.toArray.size = 1 then vs.toArray[0] else .tuple vs.toArray) W := by
  have key : ∀ (f : ResultVar → Sem Value), (∀ x V, ResOk P tmps W x V → (f x).run P W = .ok V W) → ∀ (l : List ResultVar) (vs : List Value), ResAll P tmps W l vs → (l.mapM f).run P W = .ok vs W := by
    intro f hf l
    induction l with
    | nil =>
      intro vs h
      cases vs with
      | nil => simp
      | cons v vs => exact h.elim
    | cons x l ih =>
      intro vs h
      cases vs with
      | nil => exact h.elim
      | cons v vs =>
        obtain ⟨h1, h2⟩ := h
        rw [List.mapM_cons, Sem.run_bind, hf x v h1, Result.andThen_ok, Sem.run_bind, ih _ h2, Result.andThen_ok, Sem.run_pure]
  unfold results
  rw [Array.mapM_eq_mapM_toList, Sem.run_bind, map_eq_pure_bind, Sem.run_bind, key _ ?_ _ _ h, Result.andThen_ok, Sem.run_pure, Result.andThen_ok, Sem.run_pure]
  intro x V hx
  cases x with
  | tmp t =>
    simp only [ResOk] at hx
    rw [Sem.run_pure, hx]
  | cell a t =>
    obtain ⟨p, h3, h4⟩ := hx
    simp [h3, h4, asAddr]
theorem resP_ok (hc : CfgOk P s c) {st : St} {r : Ren} {a : Act} {W : World} (hF : Fits s r st.H W) (hE : EnvOk s r st.env st.sz a) : ∀ {l : List ResultVar} {ps : List CP}, resP c st l = some ps → ∃ vs, dPs s r ps = some vs ∧ ResAll P a.tmps W l vs
  | [], ps, h => by
    injection h with h
    subst h
    exact ⟨[], rfl, trivial⟩
  | x :: l, ps, h => by
    unfold resP at h
    split at h
    · rename_i p hp
      split at h
      · rename_i ps' hps
        injection h with h
        subst h
        obtain ⟨V, h1, h2⟩ := resOf_ok hc hp hF hE
        obtain ⟨vs, h3, h4⟩ := resP_ok hc hF hE hps
        exact ⟨V :: vs, dPs_mk h1 h3, h2, h4⟩
      · cases h
    · cases h
theorem dPs_len {r : Ren} : ∀ {l : List CP} {vs : List Value}, dPs s r l = some vs → vs.length = l.length
  | [], _, hv => by injection hv with hv; subst hv; rfl
  | _ :: _, _, hv => by
    obtain ⟨v, us, h1, h2, rfl⟩ := dPs_cons hv
    simp [dPs_len h2]
theorem resP_len {st : St} : ∀ {l : List ResultVar} {ps : List CP}, resP c st l = some ps → ps.length = l.length
  | [], ps, h => by injection h with h; subst h; rfl
  | x :: l, ps, h => by
    unfold resP at h
    split at h
    · split at h
      · rename_i ps' hps
        injection h with h
        subst h
        simp [resP_len hps]
      · cases h
    · cases h
theorem resAll_ok (hc : CfgOk P s c) {fn : Func} {st : St} {v : CV} (h : resAll c st fn.results.toList = some v) {r : Ren} {a : Act} {W : World} (hF : Fits s r st.H W) (hE : EnvOk s r st.env st.sz a) : ∃ V, v.d s r = some V ∧ (results fn a.tmps).run P W = .ok V W := by
  unfold resAll at h
  split at h
  · rename_i x hx
    obtain ⟨V, h1, h2⟩ := resOf_ok hc h hF hE
    refine ⟨V, h1, ?_⟩
    rw [results_run (vs := [V]) (by rw [hx]; exact ⟨h2, trivial⟩)]
    simp
  · rename_i hne
    split at h
    · rename_i ps hps
      injection h with h
      subst h
      obtain ⟨vs, h1, h2⟩ := resP_ok hc hF hE hps
      refine ⟨.tuple vs.toArray, by simp [CV.d, h1], ?_⟩
      rw [results_run h2, dif_neg]
      intro e
      have h3 := dPs_len h1
      have h4 := resP_len hps
      have h5 : fn.results.toList.length = 1 := by simp at e; omega
      cases hl : fn.results.toList with
      | nil => rw [hl] at h5; cases h5
      | cons x l =>
        cases l with
        | nil => exact hne x hl
        | cons y l => rw [hl] at h5; simp at h5
    · cases h
theorem get_none (t : Nat) : e3.at' t = uv0 := by
  unfold Tr.at' Tr.get3
  have h2 : ∀ i, e3.get i = e2 := by intro i; cases i <;> rfl
  have h1 : ∀ i, e2.get i = e1 := by intro i; cases i <;> rfl
  have h0 : ∀ i, e1.get i = uv0 := by intro i; cases i <;> rfl
  rw [h2, h1, h0]
theorem envOf_get : ∀ (l : List CV) (i : Nat) (t : Tr) (j : Nat), i + l.length ≤ 500 → j < 500 → (envOf l i t).at' j = if i ≤ j ∧ j < i + l.length then (l[j - i]?).getD uv0 else t.at' j
  | [], i, _, j, _, _ => by
    simp only [envOf, List.length_nil]
    rw [if_neg (by omega)]
  | v :: l, i, t, j, h, hj => by
    simp only [List.length_cons] at h
    show (envOf l (i + 1) (Tr.put t i v)).at' j = _
    rw [envOf_get l (i + 1) _ j (by omega) hj, Tr.get_set _ _ _ _ (by omega) (by omega)]
    simp only [List.length_cons]
    by_cases h1 : j = i
    · subst h1
      rw [if_neg (by omega), if_pos rfl, if_pos (by omega)]
      simp
    · by_cases h2 : i + 1 ≤ j ∧ j < i + 1 + l.length
      · rw [if_pos h2, if_pos (by omega)]
        rw [show j - i = (j - (i + 1)) + 1 by omega, List.getElem?_cons_succ]
      · rw [if_neg h2, if_neg h1, if_neg (by omega)]
theorem dVs_len {r : Ren} : ∀ {l : List CV} {vs : List Value}, dVs s r l = some vs → vs.length = l.length
  | [], _, hv => by injection hv with hv; subst hv; rfl
  | _ :: _, _, hv => by
    obtain ⟨v, us, h1, h2, rfl⟩ := dVs_cons hv
    simp [dVs_len h2]
theorem dVs_get {r : Ren} : ∀ {l : List CV} {vs : List Value} {i : Nat} {a : CV}, dVs s r l = some vs → l[i]? = some a → ∃ v, vs[i]? = some v ∧ a.d s r = some v
  | [], _, i, _, _, ha => by simp at ha
  | x :: l, _, i, a, hv, ha => by
    obtain ⟨v, us, h1, h2, rfl⟩ := dVs_cons hv
    cases i with
    | zero =>
      simp only [List.getElem?_cons_zero, Option.some.injEq] at ha
      subst ha
      exact ⟨v, rfl, h1⟩
    | succ i =>
      simp only [List.getElem?_cons_succ] at ha ⊢
      exact dVs_get h2 ha
/-- slots as a function finds them -/
theorem env_start {args : List CV} {A : List Value} {r : Ren} {n : Nat} (hd : dVs s r args = some A) (h1 : args.length ≤ n) (h2 : n ≤ 500) : EnvOk s r (envOf args 0 e3) n { tmps := A.toArray ++ Array.replicate (n - A.toArray.size) undef, defers := [] } := by
  have hl := dVs_len hd
  refine ⟨rfl, by simp; omega, fun t v hv => ?_⟩
  have hlt := lookT_lt hv
  obtain ⟨h500, hv⟩ := lookT_at hv
  rw [envOf_get args 0 e3 t (by omega) h500, get_none] at hv
  simp only [Nat.zero_le, true_and, Nat.zero_add, Nat.sub_zero] at hv
  by_cases ht : t < args.length
  · rw [if_pos ht, List.getElem?_eq_getElem ht, Option.getD_some] at hv
    obtain ⟨V, h3, h4⟩ := dVs_get hd (List.getElem?_eq_getElem ht)
    rw [← hv, h4]
    congr 1
    have : t < A.length := by omega
    rw [List.getElem?_eq_getElem this] at h3
    injection h3 with h3
    subst h3
    simp [this, Array.getElem?_append]
  · rw [if_neg ht] at hv
    subst hv
    have : ¬ t < A.length := by omega
    have h5 : (A.toArray ++ Array.replicate (n - A.toArray.size) undef).getD t undef = undef := by
      simp [Array.getElem?_append, this, Array.getElem?_replicate]
      split <;> rfl
    rw [h5]
    rfl
/-- a function, as it is reckoned -/
theorem evFunc_ok (hm : P.follows .mixedOrders = true) (hcall : CallsOk P s call) (hc : CfgOk P s c) {f : Nat} {fn : Func} (hf : P.funcs[f]? = some fn) (hnm : (fn.name == "runtime.NumGoroutine") = false) (hok : ∀ b, fn.body = some b → codeOk b = true) {args : List CV} {H : Hp} {n : Nat} {out : Out} (h : evFunc c call fn args H n = some out) (hl : Low H n) : CallSim P s f args H n out := by
  unfold evFunc at h
  split at h
  · cases h
  · rename_i b hb
    split at h
    · cases h
    · rename_i hle
      simp only [Bool.and_eq_true] at hle
      have h1 : args.length ≤ fn.ntmps := Nat.le_of_ble_eq_true hle.1
      have h2 : fn.ntmps ≤ 500 := Nat.le_of_ble_eq_true hle.2
      have hgc : ∀ p ∈ gc c 2000 (namesVs args) H [], p ∈ H := fun p hp => (gc_mem _ hp).elim id (fun h => by cases h)
      generalize gc c 2000 (namesVs args) H [] = H1 at h hgc
      have hl1 : Low H1 n := fun p hp => hl p (hgc p hp)
      unfold evBody at h
      split at h
      · cases h
      · cases h
      · rename_i ex st hne hcode
        split at h
        · cases h
        · rename_i v hv
          injection h with h
          have hsim := code_ok hm hcall hc b hcode (hok b hb) hl1 (Nat.le_refl _)
          have hg := hsim.grow
          have hT0 : ∀ b ∈ st.T, ∃ k, (b, k) ∈ H1 := fun b hb => (hg.T0 b hb).elim (fun h => by cases h) fun h => h.2
          have hU : ∀ p ∈ outU st, p ∈ st.H ∧ p.1 ∈ st.T := by
            intro p hp
            unfold outU at hp
            split at hp
            · cases hp
            · exact keptH_mem hp
          have hout : out = ⟨v, gc c 2000 (namesV v ++ rootsH c (outU st) []) (freshH n st.H) [], st.n, st.T, outU st, H1⟩ := h.symm
          have hnews : ∀ p ∈ out.news, p ∈ st.H ∧ n ≤ p.1 := by
            intro p hp
            rw [hout] at hp
            exact (gc_mem _ hp).elim (fun h => freshH_mem h) (fun h => by cases h)
          have hUT : ∀ p ∈ out.U, p.1 ∈ out.T := by
            intro p hp
            rw [hout] at hp ⊢
            exact (hU p hp).2
          refine ⟨⟨fn, hf, hnm, by rw [hb]; rfl⟩, ⟨?_, ?_, ?_, hUT, ?_⟩, ?_⟩
          · rw [hout]
            exact hgc
          · rw [hout]
            exact hg.le
          · intro p hp
            have h3 := hnews p hp
            rw [hout]
            exact ⟨h3.2, hg.low p h3.1⟩
          · rw [hout]
            exact hT0
          · intro r A W hA hlow hfree hF
            refine calls_of_wp hf hb ?_
            have hN : out.nx = st.n := by rw [hout]
            rw [hN] at hfree
            have hrd : out.rd = H1 := by rw [hout]
            rw [hrd] at hF
            refine hsim.wp (N := st.n) (Tf := st.T) (r0 := r) (W0 := W) (Nat.le_refl _) (fun b hb => hb) (r := r) ⟨Post.start hfree hg.le st.T, hfree, hF, env_start hA h1 h2⟩ fun r' a' W' hR => ?_
            have key : a'.defers = [] ∧ ∃ V, (results fn a'.tmps).run P W' = .ok V W' ∧ ∃ r' V', Ending.returned V = Ending.returned V' ∧ Post r n W out.T r' out.nx W' ∧ out.v.d s r' = some V' ∧ Fits s r' (out.news ++ out.U) W' := by
              obtain ⟨V, h3, h4⟩ := resAll_ok hc hv hR.fits hR.env
              refine ⟨hR.env.defers, V, h4, r', V, rfl, ?_, ?_, hR.fits.sublist fun p hp => ?_⟩
              · rw [hout]
                exact hR.post
              · rw [hout]
                exact h3
              · rcases List.mem_append.1 hp with hp | hp
                · exact (hnews p hp).1
                · rw [hout] at hp
                  exact (hU p hp).1
            cases ex with
            | nm => exact key
            | rt => exact key
            | ex id => exact (hne id rfl).elim
end
end Go.Proofs.YtmlpimckfneliaaGreat.Ev
