/- A run reckoned beforehand, quickly: calls are as they are reckoned. No conditions. -/
import Derived.Test.YtmlpimckfneliaaGreatFf
namespace Go.Proofs.YtmlpimckfneliaaGreat.Ev
section
variable {P : Program} {s : Nat → Value}
theorem namesF_nil : ∀ {ps : List (Nat × Nat)} {l : List Nat}, namesF ps l = [] → ps = [] ∧ l = []
  | [], l, h => ⟨rfl, h⟩
  | p :: ps, l, h => by cases h
theorem dL_nameless (r r' : Ren) : ∀ {cs : List CA} {l : List Nat}, namesA cs l = [] → l = [] ∧ dL s r cs = dL s r' cs
  | [], l, h => ⟨h, rfl⟩
  | .lit v :: cs, l, h => by
    obtain ⟨h1, h2⟩ := dL_nameless r r' (cs := cs) (l := l) h
    refine ⟨h1, ?_⟩
    unfold dL
    rw [h2]
    rfl
  | .sym k :: cs, l, h => by
    obtain ⟨h1, h2⟩ := dL_nameless r r' (cs := cs) (l := l) h
    refine ⟨h1, ?_⟩
    unfold dL
    rw [h2]
    rfl
  | .ptr b off :: cs, l, h => by cases h
  | .sl b off len cap :: cs, l, h => by cases h
  | .slu b off len cap :: cs, l, h => by cases h
  | .fn f ps :: cs, l, h => by
    obtain ⟨h0, h⟩ := namesF_nil (ps := ps) (l := namesA cs l) h
    subst h0
    obtain ⟨h1, h2⟩ := dL_nameless r r' (cs := cs) (l := l) h
    refine ⟨h1, ?_⟩
    unfold dL
    rw [h2]
    rfl
theorem dP_nameless (r r' : Ren) {p : CP} {l : List Nat} (h : namesA p.cells l = []) : l = [] ∧ p.d s r = p.d s r' := by
  obtain ⟨h1, h2⟩ := dL_nameless (s := s) r r' h
  refine ⟨h1, ?_⟩
  cases p with
  | ag cs => simp only [CP.d, CP.cells] at h2 ⊢; rw [h2]
  | one a =>
    simp only [CP.cells, dL] at h2
    show a.d s r = a.d s r'
    cases h3 : a.d s r with
    | none =>
      cases h4 : a.d s r' with
      | none => rfl
      | some v => rw [h3, h4] at h2; cases h2
    | some u =>
      cases h4 : a.d s r' with
      | none => rw [h3, h4] at h2; cases h2
      | some v =>
        rw [h3, h4] at h2
        injection h2 with h2
        injection h2 with h2
        rw [h2]
theorem dPs_nameless (r r' : Ren) : ∀ {ps : List CP} {l : List Nat}, namesP ps l = [] → l = [] ∧ dPs s r ps = dPs s r' ps
  | [], l, h => ⟨h, rfl⟩
  | p :: ps, l, h => by
    obtain ⟨h1, h2⟩ := dP_nameless (s := s) r r' (p := p) (l := namesP ps l) h
    obtain ⟨h3, h4⟩ := dPs_nameless r r' h1
    refine ⟨h3, ?_⟩
    unfold dPs
    rw [h2, h4]
theorem dV_nameless (r r' : Ren) {v : CV} (h : namesV v = []) : v.d s r = v.d s r' := by
  cases v with
  | p p => exact (dP_nameless r r' h).2
  | tup l =>
    show (dPs s r l).map _ = (dPs s r' l).map _
    rw [(dPs_nameless r r' h).2]
theorem dVs_nameless (r r' : Ren) : ∀ {l : List CV}, namesVs l = [] → dVs s r l = dVs s r' l
  | [], _ => rfl
  | v :: l, h => by
    obtain ⟨h1, h2⟩ := List.append_eq_nil_iff.1 (show namesV v ++ namesVs l = [] from h)
    unfold dVs
    rw [dV_nameless r r' h1, dVs_nameless r r' h2]
section
variable {r r' : Ren} {n : Nat}
theorem dPtr_sh (h : ∀ b x, r b = some x → r' (Nat.add b n) = some x) : ∀ {l : List (Nat × Nat)} {vs : List Value}, dPtr r l = some vs → dPtr r' (l.map fun p => (Nat.add p.1 n, p.2)) = some vs
  | [], _, hv => hv
  | p :: l, vs, hv => by
    unfold dPtr at hv
    split at hv
    · rename_i x us h1 h2
      show (match r' (Nat.add p.1 n), dPtr r' (l.map fun p => (Nat.add p.1 n, p.2)) with
        | some x, some vs => some (.pointer (some ⟨x.1, p.2, none⟩) :: vs)
        | _, _ => none) = some vs
      rw [h p.1 x h1, dPtr_sh h h2]
      exact hv
    · cases hv
theorem shA_d (h : ∀ b x, r b = some x → r' (Nat.add b n) = some x) {a : CA} {v : Value} (hv : a.d s r = some v) : (shA n a).d s r' = some v := by
  cases a with
  | lit u => exact hv
  | sym k => exact hv
  | ptr b off =>
    simp only [CA.d, shA, Option.map_eq_some_iff] at hv ⊢
    obtain ⟨x, hx, rfl⟩ := hv
    exact ⟨x, h b x hx, rfl⟩
  | sl b off len cap =>
    simp only [CA.d, shA, Option.map_eq_some_iff] at hv ⊢
    obtain ⟨x, hx, rfl⟩ := hv
    exact ⟨x, h b x hx, rfl⟩
  | slu b off len cap =>
    simp only [CA.d, shA, Option.map_eq_some_iff] at hv ⊢
    obtain ⟨x, hx, rfl⟩ := hv
    exact ⟨x, h b x hx, rfl⟩
  | fn f ps =>
    simp only [CA.d, shA, Option.map_eq_some_iff] at hv ⊢
    obtain ⟨x, hx, rfl⟩ := hv
    exact ⟨x, dPtr_sh h hx, rfl⟩
theorem shL_d (h : ∀ b x, r b = some x → r' (Nat.add b n) = some x) : ∀ {l : List CA} {vs : List Value}, dL s r l = some vs → dL s r' (shL n l) = some vs
  | [], _, hv => hv
  | _ :: _, _, hv => by
    obtain ⟨v, us, h1, h2, rfl⟩ := dL_cons hv
    exact dL_mk (shA_d h h1) (shL_d h h2)
theorem shP_d (h : ∀ b x, r b = some x → r' (Nat.add b n) = some x) {p : CP} {v : Value} (hv : p.d s r = some v) : (shP n p).d s r' = some v := by
  cases p with
  | one a => exact shA_d h hv
  | ag cs =>
    simp only [CP.d, shP, Option.map_eq_some_iff] at hv ⊢
    obtain ⟨x, hx, rfl⟩ := hv
    exact ⟨x, shL_d h hx, rfl⟩
theorem shPs_d (h : ∀ b x, r b = some x → r' (Nat.add b n) = some x) : ∀ {l : List CP} {vs : List Value}, dPs s r l = some vs → dPs s r' (shPs n l) = some vs
  | [], _, hv => hv
  | _ :: _, _, hv => by
    obtain ⟨v, us, h1, h2, rfl⟩ := dPs_cons hv
    exact dPs_mk (shP_d h h1) (shPs_d h h2)
theorem shV_d (h : ∀ b x, r b = some x → r' (Nat.add b n) = some x) {w : CV} {v : Value} (hv : w.d s r = some v) : (shV n w).d s r' = some v := by
  cases w with
  | p p => exact shP_d h hv
  | tup l =>
    simp only [CV.d, shV, Option.map_eq_some_iff] at hv ⊢
    obtain ⟨x, hx, rfl⟩ := hv
    exact ⟨x, shPs_d h hx, rfl⟩
end
theorem shH_mem {n : Nat} : ∀ {H : Hp} {p : Nat × CB}, p ∈ shH n H → ∃ b t cs sl, (b, ⟨t, cs, sl⟩) ∈ H ∧ p = (Nat.add b n, ⟨t, shL n cs, sl⟩)
  | [], p, h => by cases h
  | (b, ⟨t, cs, sl⟩) :: l, p, h => by
    rcases List.mem_cons.1 h with h | h
    · exact ⟨b, t, cs, sl, List.mem_cons_self .., h⟩
    · obtain ⟨b', t', cs', sl', h1, h2⟩ := shH_mem h
      exact ⟨b', t', cs', sl', List.mem_cons_of_mem _ h1, h2⟩
/-- a call made where nothing is, laid among what there is -/
theorem shift_sim {f : Nat} {args : List CV} {o out : Out} {H : Hp} {n : Nat} (hn : namesVs args = []) (h : CallSim P s f args [] 0 o) (hs : shO n o = some out) : CallSim P s f args H n out := by
  obtain ⟨v, news, nx, T, U, rd⟩ := o
  have hrd : ∀ p ∈ rd, False := fun p hp => by have := h.stat.rd p hp; cases this
  have hT : ∀ b ∈ T, False := fun b hb => by obtain ⟨k, hk⟩ := h.stat.T b hb; exact hrd _ hk
  have hU : U = [] := by
    cases U with
    | nil => rfl
    | cons q l => exact (hT _ (h.stat.U q (by simp))).elim
  have hT0 : T = [] := by
    cases T with
    | nil => rfl
    | cons q l => exact (hT q (by simp)).elim
  subst hU
  subst hT0
  have run : ∀ (r : Ren) (A : List Value) (W : World), dVs s r args = some A → Calls P f A.toArray W fun e W' => ∃ r' V, e = .returned V ∧ Post (fun _ => none) 0 W [] r' nx W' ∧ v.d s r' = some V ∧ Fits s r' news W' := by
    intro r A W hA
    have := h.sim (fun _ => none) A W (by rw [← hA]; exact dVs_nameless _ _ hn) (fun p hp => (hrd p hp).elim) (fun _ _ _ => rfl) ⟨fun p hp => (hrd p hp).elim, fun p hp => (hrd p hp).elim⟩
    simpa using this
  unfold shO at hs
  simp only at hs
  split at hs
  · rename_i hv
    injection hs with hs
    subst hs
    refine ⟨h.fn, ⟨by simp, Nat.le_refl _, by simp, by simp, by simp⟩, fun r A W hA _ _ _ => (run r A W hA).mono ?_⟩
    rintro e W' ⟨r', V, rfl, hP, hd, _⟩
    refine ⟨r, V, rfl, ⟨Nat.le_refl _, fun _ _ => rfl, hP.os, hP.tape, hP.output, hP.size, fun B hB _ => hP.same B hB (by simp), fun b B c h1 h2 _ => absurd (Nat.lt_of_le_of_lt h1 h2) (Nat.lt_irrefl _)⟩, ?_, fits_nil⟩
    rw [← hd]
    exact dV_nameless _ _ hv
  · rw [frcV_eq, frcH_eq, fcN_eq] at hs
    injection hs with hs
    subst hs
    have hnews := h.stat.news
    refine ⟨h.fn, ⟨by simp, Nat.le_add_left _ _, fun p hp => ?_, by simp, by simp⟩, fun r A W hA _ _ _ => (run r A W hA).mono ?_⟩
    · obtain ⟨b, t, cs, sl, h1, rfl⟩ := shH_mem hp
      have := hnews _ h1
      simp only at this ⊢
      exact ⟨Nat.le_add_left _ _, Nat.add_lt_add_right this.2 n⟩
    · rintro e W' ⟨r', V, rfl, hP, hd, hF⟩
      have hlt : ∀ b x, r' b = some x → b < nx := by
        intro b x hx
        rcases Nat.lt_or_ge b nx with h' | h'
        · exact h'
        · rw [hP.ext b (.inr h')] at hx
          cases hx
      let r2 : Ren := fun b => if n ≤ b ∧ b < Nat.add nx n then r' (b - n) else r b
      have hr2 : ∀ b x, r' b = some x → r2 (Nat.add b n) = some x := by
        intro b x hx
        have h1 := hlt b x hx
        show (if n ≤ b + n ∧ b + n < nx + n then r' (b + n - n) else r (b + n)) = some x
        rw [if_pos ⟨by omega, by omega⟩, Nat.add_sub_cancel]
        exact hx
      have hr2' : ∀ b, b < nx → r2 (Nat.add b n) = r' b := by
        intro b hb
        show (if n ≤ b + n ∧ b + n < nx + n then r' (b + n - n) else r (b + n)) = r' b
        rw [if_pos ⟨by omega, by omega⟩, Nat.add_sub_cancel]
      refine ⟨r2, V, rfl, ⟨Nat.le_add_left _ _, fun b hb => ?_, hP.os, hP.tape, hP.output, hP.size, fun B hB _ => hP.same B hB (by simp), fun b B c h1 h2 h3 => ?_⟩, shV_d hr2 hd, ?_⟩
      · show (if n ≤ b ∧ b < nx + n then r' (b - n) else r b) = r b
        rw [if_neg]
        rintro ⟨h1, h2⟩
        rcases hb with hb | hb
        · omega
        · exact absurd h2 (Nat.not_lt.2 hb)
      · have h2' : b < nx + n := h2
        have h3' : r' (b - n) = some (B, c) := by
          have : r2 b = r' (b - n) := by
            show (if n ≤ b ∧ b < nx + n then r' (b - n) else r b) = _
            rw [if_pos ⟨h1, h2'⟩]
          rw [← this]
          exact h3
        rcases hP.fresh (b - n) B c (Nat.zero_le _) (by omega) h3' with h4 | ⟨b0, h4, _⟩
        · exact .inl h4
        · cases h4
      · simp only [List.append_nil]
        refine ⟨fun p hp B cap hB => ?_, fun p hp q hq B c c' h1 h2 => ?_⟩
        · obtain ⟨b, t, cs, sl, h1, rfl⟩ := shH_mem hp
          rw [hr2' b (hnews _ h1).2] at hB
          obtain ⟨vs, cur, h3, h4, h5⟩ := hF.fit _ h1 B cap hB
          exact ⟨vs, cur, shL_d hr2 h3, h4, h5⟩
        · obtain ⟨b, t, cs, sl, h3, rfl⟩ := shH_mem hp
          obtain ⟨b', t', cs', sl', h4, rfl⟩ := shH_mem hq
          rw [hr2' b (hnews _ h3).2] at h1
          rw [hr2' b' (hnews _ h4).2] at h2
          have := hF.apart _ h3 _ h4 B c c' h1 h2
          simp only at this ⊢
          rw [this]
/-- the functions' table is the program's -/
def FnsOk (P : Program) (c : Cfg) : Prop := ∀ f fn, c.fn f = some fn → P.funcs[f]? = some fn ∧ (fn.name == "runtime.NumGoroutine") = false ∧ ∀ b, fn.body = some b → codeOk b = true
theorem xCall_ok {c : Cfg} {orc : CallF} {hi : Nat → Nat} (hm : P.follows .mixedOrders = true) (hc : CfgOk P s c) (hfn : FnsOk P c) (horc : CallsOk P s orc) : ∀ d, CallsOk P s (xCall c orc hi d)
  | 0 => fun f args H n out h _ => by cases h
  | d + 1 => fun f args H n out h hl => by
    have ih := xCall_ok hm hc hfn horc d (hi := hi)
    have h : (match Nat.ble (hi f) d with
      | true => xCall c orc hi d f args H n
      | false => match orc f args H n with
        | some o => some o
        | none => match c.fn f with
          | none => none
          | some fn => match namesVs args with
            | [] => (match xFunc c (xCall c orc hi d) fn args [] 0 with
              | some o => shO n o
              | none => none)
            | _ => xFunc c (xCall c orc hi d) fn args H n) = some out := h
    split at h
    · exact ih f args H n out h hl
    · split at h
      · rename_i o ho
        injection h with h
        subst h
        exact horc f args H n o ho hl
      · split at h
        · cases h
        · rename_i fn hf
          obtain ⟨h1, h2, h3⟩ := hfn f fn hf
          split at h
          · rename_i hn
            split at h
            · rename_i o ho
              exact shift_sim hn (evFunc_ok hm ih hc h1 h2 h3 ((func_le fn args [] 0).some ho) (fun p hp => by cases hp)) h
            · cases h
          · exact evFunc_ok hm ih hc h1 h2 h3 ((func_le fn args H n).some h) hl
end
end Go.Proofs.YtmlpimckfneliaaGreat.Ev
