/- A run reckoned beforehand: regions, in their own order and in any. No conditions. -/
import Derived.Test.YtmlpimckfneliaaGreatEn
namespace Go.Proofs.YtmlpimckfneliaaGreat.Ev
/-- blocks, as a set -/
structure FitsP (s : Nat → Value) (r : Ren) (A : Nat × CB → Prop) (W : World) : Prop where
  fit : ∀ p, A p → Fit1 s r W p
  apart : ∀ p q, A p → A q → ∀ B c c', r p.1 = some (B, c) → r q.1 = some (B, c') → p.1 = q.1
theorem Fits.toP {s : Nat → Value} {r : Ren} {H : Hp} {W : World} (h : Fits s r H W) : FitsP s r (· ∈ H) W := ⟨h.fit, fun p q hp hq => h.apart p hp q hq⟩
theorem FitsP.of {s : Nat → Value} {r : Ren} {A : Nat × CB → Prop} {H : Hp} {W : World} (h : FitsP s r A W) (hH : ∀ p ∈ H, A p) : Fits s r H W := ⟨fun p hp => h.fit p (hH p hp), fun p hp q hq => h.apart p q (hH p hp) (hH q hq)⟩
section
variable {s : Nat → Value} {r r' r0 r1 : Ren} {n n0 n1 n2 N : Nat} {W W' W0 W1 : World} {out : Out} {H : Hp} {T T1 : List Nat} {A A' : Nat × CB → Prop}
theorem Post.inn (h : Post r0 n0 W0 T r N W) (h' : Post r n1 W T1 r1 n2 W1) (hn : n0 ≤ n1) (hN : n2 ≤ N) (hT : ∀ b ∈ T1, b < N ∧ (b < n0 → b ∈ T)) : Post r0 n0 W0 T r1 N W1 := by
  have hle := h'.le
  refine ⟨h.le, fun b hb => ?_, h'.os.trans h.os, h'.tape.trans h.tape, h'.output.trans h.output, Nat.le_trans h.size h'.size, fun B hB hT' => ?_, fun b B c hb1 hb2 hb => ?_⟩
  · rw [h'.ext b (by omega), h.ext b hb]
  · rw [h'.same B (Nat.lt_of_lt_of_le hB h.size) ?_, h.same B hB hT']
    intro b hb c hc
    obtain ⟨q1, q2⟩ := hT b hb
    rcases Nat.lt_or_ge b n0 with hlt | hge
    · rw [h.ext b (.inl hlt)] at hc
      exact hT' b (q2 hlt) c hc
    · rcases h.fresh b B c hge q1 hc with h3 | ⟨b0, h4, c0, h5⟩
      · omega
      · exact hT' b0 h4 c0 h5
  · rcases (show (b < n1 ∨ n2 ≤ b) ∨ (n1 ≤ b ∧ b < n2) by omega) with hx | ⟨hx1, hx2⟩
    · rw [h'.ext b hx] at hb
      exact h.fresh b B c hb1 hb2 hb
    · rcases h'.fresh b B c hx1 hx2 hb with h3 | ⟨b0, h4, c0, h5⟩
      · exact .inl (Nat.le_trans h.size h3)
      · obtain ⟨q1, q2⟩ := hT b0 h4
        rcases Nat.lt_or_ge b0 n0 with hlt | hge
        · rw [h.ext b0 (.inl hlt)] at h5
          exact .inr ⟨b0, q2 hlt, c0, h5⟩
        · exact h.fresh b0 B c0 hge q1 h5
theorem Post.start (hf : Free r n N) (hn : n ≤ N) (T : List Nat) : Post r n W T r N W :=
  ⟨hn, fun _ _ => rfl, rfl, rfl, rfl, Nat.le_refl _, fun _ _ _ => rfl, fun b B c h1 h2 h3 => by rw [hf b h1 h2] at h3; cases h3⟩
/-- what fits behind an operation -/
theorem fitsP_next (h : FitsP s r A W) (hrd : ∀ p ∈ out.rd, A p) (hnew : ∀ p ∈ out.news, n ≤ p.1 ∧ p.1 < out.nx) (hU : ∀ p ∈ out.U, p.1 ∈ out.T) (hTr : ∀ b ∈ out.T, ∃ k, (b, k) ∈ out.rd)
    (hA : ∀ p, A p → p.1 < n ∨ out.nx ≤ p.1) (hP : Post r n W out.T r' out.nx W') (hf : Free r n out.nx) (hF : Fits s r' (out.news ++ out.U) W') (hA' : ∀ p, A' p → p ∈ out.news ++ out.U ∨ (A p ∧ p.1 ∉ out.T)) : FitsP s r' A' W' := by
  have hs := hP.sub hf
  have hr : ∀ p, A p → r' p.1 = r p.1 := fun p hp => hP.ext p.1 (hA p hp)
  have hTA : ∀ b ∈ out.T, ∃ k, A (b, k) := fun b hb => by obtain ⟨k, hk⟩ := hTr b hb; exact ⟨k, hrd _ hk⟩
  have hold : ∀ p, A p → p.1 ∉ out.T → Fit1 s r' W' p := by
    intro p hp hpT B cap hB
    rw [hr p hp] at hB
    obtain ⟨vs, cur, h3, h4, h5⟩ := h.fit p hp B cap hB
    refine ⟨vs, cur, dL_sub hs h3, ?_, h5⟩
    rw [hP.same B (heap_lt' h4) ?_]
    · exact h4
    · intro b hb c hc
      obtain ⟨k, hk⟩ := hTA b hb
      have := h.apart p (b, k) hp hk B cap c hB hc
      exact hpT (this ▸ hb)
  have hmix : ∀ p q, p ∈ out.news ++ out.U → A q → q.1 ∉ out.T → ∀ B c c', r' p.1 = some (B, c) → r' q.1 = some (B, c') → p.1 = q.1 := by
    intro p q hp hq hqT B c c' h1 h2
    rw [hr q hq] at h2
    obtain ⟨vs, cur, _, h4, _⟩ := h.fit q hq B c' h2
    have hlt := heap_lt' h4
    have hne : ∀ b0 ∈ out.T, ∀ c0, r b0 = some (B, c0) → False := by
      intro b0 hb0 c0 h5
      obtain ⟨k, hk⟩ := hTA b0 hb0
      exact hqT ((h.apart q (b0, k) hq hk B c' c0 h2 h5) ▸ hb0)
    rcases List.mem_append.1 hp with hp | hp
    · rcases hP.fresh p.1 B c (hnew p hp).1 (hnew p hp).2 h1 with h5 | ⟨b0, h6, c0, h7⟩
      · omega
      · exact (hne b0 h6 c0 h7).elim
    · have hpT := hU p hp
      obtain ⟨k, hk⟩ := hTA p.1 hpT
      have := hr (p.1, k) hk
      simp only at this
      rw [this] at h1
      exact (hne p.1 hpT c h1).elim
  refine ⟨fun p hp => ?_, fun p q hp hq B c c' h1 h2 => ?_⟩
  · rcases hA' p hp with h1 | ⟨h1, h2⟩
    · exact hF.fit p h1
    · exact hold p h1 h2
  · rcases hA' p hp with hp | ⟨hp, hpT⟩ <;> rcases hA' q hq with hq | ⟨hq, hqT⟩
    · exact hF.apart p hp q hq B c c' h1 h2
    · exact hmix p q hp hq hqT B c c' h1 h2
    · exact (hmix q p hq hp hpT B c' c h2 h1).symm
    · rw [hr p hp] at h1
      rw [hr q hq] at h2
      exact h.apart p q hp hq B c c' h1 h2
theorem fits_next (h : Fits s r H W) (hl : Low H n) (hst : OpStat H n out) (hP : Post r n W out.T r' out.nx W') (hf : Free r n out.nx) (hF : Fits s r' (out.news ++ out.U) W') : Fits s r' (nextH H out) W' :=
  (fitsP_next (A' := (· ∈ nextH H out)) h.toP hst.rd hst.news hst.U hst.T (fun p hp => .inl (hl p hp)) hP hf hF fun _ hp => (nextH_mem hst.U).1 hp).of fun _ hp => hp
theorem low_next (hl : Low H n) (hst : OpStat H n out) : Low (nextH H out) out.nx := by
  intro p hp
  have hle := hst.le
  rcases (nextH_mem hst.U).1 hp with h | ⟨h, _⟩
  · rcases List.mem_append.1 h with h | h
    · exact (hst.news p h).2
    · obtain ⟨k, hk⟩ := hst.T p.1 (hst.U p h)
      exact Nat.lt_of_lt_of_le (hl (p.1, k) (hst.rd _ hk)) hle
  · exact Nat.lt_of_lt_of_le (hl p h) hle
theorem Post.free (h : Post r n W T r' n1 W') (hf : Free r n N) : Free r' n1 N := fun b h1 h2 => by
  rw [h.ext b (.inr h1)]
  exact hf b (Nat.le_trans h.le h1) h2
end
/-- one operation's step, as it was reckoned -/
structure Sp where
  st : St
  w : Bool
  dst : Option Tmp
  out : Out
  st' : St
def noOut (n : Nat) : Out := ⟨uv0, [], n, [], [], []⟩
structure StepAt (c : Cfg) (call : CallF) (n0 : Nat) (ops : Array Oper) (o : Oper) (x : Sp) : Prop where
  dst : x.dst = o.dst
  want : evWant ops.toList x.st.env x.st.sz o = some x.w
  yes : x.w = true → evOper c call (evX x.st.env x.st.sz) o x.st.H x.st.n = some x.out
  no : x.w = false → x.out = noOut x.st.n
  put : putT x.st.env x.st.sz x.dst x.out.v = some x.st'.env
  sz : x.st'.sz = x.st.sz
  H : x.st'.H = nextH x.st.H x.out
  n : x.st'.n = x.out.nx
  T : x.st'.T = addN x.st.T n0 x.out.T
def Chain (c : Cfg) (call : CallF) (n0 : Nat) (ops : Array Oper) : List Oper → St → List Sp → St → Prop
  | [], st, xs, st' => xs = [] ∧ st' = st
  | o :: l, st, xs, st'' => ∃ x xs', xs = x :: xs' ∧ x.st = st ∧ StepAt c call n0 ops o x ∧ Chain c call n0 ops l x.st' xs' st''
def Sp.log (x : Sp) : Lg := ⟨x.st.n, x.out.nx, x.out.T, namesH x.out.rd⟩
section
variable {P : Program} {s : Nat → Value} {c : Cfg} {call : CallF} {n0 : Nat} {ops : Array Oper}
theorem evSeq_chain : ∀ {l : List Oper} {st st' : St} {lg lg' : List Lg}, evSeq c call n0 ops.toList l st lg = some (st', lg') → ∃ xs, Chain c call n0 ops l st xs st' ∧ lg' = (xs.map Sp.log).reverse ++ lg
  | [], st, st', lg, lg', h => by
    injection h with h
    injection h with h1 h2
    exact ⟨[], ⟨rfl, h1.symm⟩, h2.symm⟩
  | o :: l, st, st', lg, lg', h => by
    unfold evSeq at h
    split at h
    · cases h
    · rename_i hw
      split at h
      · cases h
      · rename_i env he
        obtain ⟨xs, h1, h2⟩ := evSeq_chain h
        refine ⟨⟨st, false, o.dst, noOut st.n, ⟨env, st.sz, st.H, st.n, st.T⟩⟩ :: xs, ⟨_, xs, rfl, rfl, ⟨rfl, hw, (fun e => by cases e), fun _ => rfl, he, rfl, rfl, rfl, rfl⟩, h1⟩, ?_⟩
        rw [h2]
        simp [Sp.log, noOut, namesH]
    · rename_i hw
      split at h
      · cases h
      · rename_i out ho
        split at h
        · cases h
        · rename_i env he
          rw [frcN_eq] at h
          obtain ⟨xs, h1, h2⟩ := evSeq_chain h
          refine ⟨⟨st, true, o.dst, out, ⟨env, st.sz, nextH st.H out, out.nx, addN st.T n0 out.T⟩⟩ :: xs, ⟨_, xs, rfl, rfl, ⟨rfl, hw, fun _ => ho, (fun e => by cases e), he, rfl, rfl, rfl, rfl⟩, h1⟩, ?_⟩
          rw [h2]
          simp [Sp.log]
theorem StepAt.stat {o : Oper} {x : Sp} (hx : StepAt c call n0 ops o x) (hcall : CallsOk P s call) (hc : CfgOk P s c) (hl : Low x.st.H x.st.n) : OpStat x.st.H x.st.n x.out := by
  cases hw : x.w with
  | true => exact (evOper_ok hcall hl hc (hx.yes hw)).2
  | false =>
    rw [hx.no hw]
    exact ⟨by simp [noOut], Nat.le_refl _, by simp [noOut], by simp [noOut], by simp [noOut]⟩
/-- what holds of all steps -/
structure Steps (n0 : Nat) (st : St) (xs : List Sp) (st' : St) : Prop where
  stat : ∀ (j : Nat) (x : Sp), xs[j]? = some x → OpStat x.st.H x.st.n x.out ∧ Low x.st.H x.st.n ∧ st.n ≤ x.st.n ∧ x.out.nx ≤ st'.n ∧ x.st.sz = st.sz ∧ (∀ b ∈ x.out.T, b < n0 → b ∈ st'.T)
  mono : ∀ (i j : Nat) (x y : Sp), i < j → xs[i]? = some x → xs[j]? = some y → x.out.nx ≤ y.st.n
  low : Low st'.H st'.n
  le : st.n ≤ st'.n
  sz : st'.sz = st.sz
  T : ∀ b ∈ st.T, b ∈ st'.T
  T0 : ∀ b ∈ st'.T, b ∈ st.T ∨ (b < n0 ∧ ∃ k, (b, k) ∈ st.H)
  nm : ∀ p ∈ st'.H, p.1 < n0 → ∃ k, (p.1, k) ∈ st.H
theorem chain_steps (hcall : CallsOk P s call) (hc : CfgOk P s c) : ∀ {l : List Oper} {st st' : St} {xs : List Sp}, Chain c call n0 ops l st xs st' → Low st.H st.n → n0 ≤ st.n → Steps n0 st xs st'
  | [], st, st', xs, h, hl, _ => by
    obtain ⟨rfl, rfl⟩ := h
    exact ⟨by simp, by simp, hl, Nat.le_refl _, rfl, fun _ h => h, fun _ h => .inl h, fun p hp _ => ⟨p.2, hp⟩⟩
  | o :: l, st, st', xs, h, hl, hn => by
    obtain ⟨x, xs', rfl, rfl, hx, h⟩ := h
    have hst := hx.stat hcall hc hl
    have hl' : Low x.st'.H x.st'.n := by
      rw [hx.H, hx.n]
      exact low_next hl hst
    have hle := hst.le
    have hr := chain_steps hcall hc h hl' (by rw [hx.n]; omega)
    have hnm : ∀ p ∈ x.st'.H, p.1 < n0 → ∃ k, (p.1, k) ∈ x.st.H := by
      intro p hp hp0
      rw [hx.H] at hp
      rcases (nextH_mem hst.U).1 hp with h1 | ⟨h1, _⟩
      · rcases List.mem_append.1 h1 with h1 | h1
        · have := (hst.news p h1).1
          omega
        · obtain ⟨k, hk⟩ := hst.T p.1 (hst.U p h1)
          exact ⟨k, hst.rd _ hk⟩
      · exact ⟨p.2, h1⟩
    have hle' := hr.le
    rw [hx.n] at hle'
    refine ⟨fun j y hy => ?_, fun i j y z hij hy hz => ?_, hr.low, Nat.le_trans hle hle', hr.sz.trans hx.sz, fun b hb => hr.T b (by rw [hx.T]; exact addN_mem.2 (.inl hb)), fun b hb => ?_, fun p hp hp0 => ?_⟩
    · cases j with
      | zero =>
        simp only [List.getElem?_cons_zero, Option.some.injEq] at hy
        subst hy
        exact ⟨hst, hl, Nat.le_refl _, hle', rfl, fun b hb hbn => hr.T b (by rw [hx.T]; exact addN_mem.2 (.inr ⟨hb, hbn⟩))⟩
      | succ j =>
        simp only [List.getElem?_cons_succ] at hy
        obtain ⟨h1, h2, h3, h4, h5, h6⟩ := hr.stat j y hy
        rw [hx.n] at h3
        exact ⟨h1, h2, Nat.le_trans hle h3, h4, h5.trans hx.sz, h6⟩
    · cases j with
      | zero => omega
      | succ j =>
        simp only [List.getElem?_cons_succ] at hz
        cases i with
        | zero =>
          simp only [List.getElem?_cons_zero, Option.some.injEq] at hy
          subst hy
          have := (hr.stat j z hz).2.2.1
          rwa [hx.n] at this
        | succ i =>
          simp only [List.getElem?_cons_succ] at hy
          exact hr.mono i j y z (by omega) hy hz
    · rcases hr.T0 b hb with h1 | ⟨h1, k, h2⟩
      · rw [hx.T] at h1
        rcases addN_mem.1 h1 with h1 | ⟨h2, h1⟩
        · exact .inl h1
        · obtain ⟨k, hk⟩ := hst.T b h2
          exact .inr ⟨h1, k, hst.rd _ hk⟩
      · exact .inr ⟨h1, hnm (b, k) h2 h1⟩
    · obtain ⟨k, hk⟩ := hr.nm p hp hp0
      exact hnm (p.1, k) hk hp0
/-- where a run stands -/
structure Rel (s : Nat → Value) (r0 : Ren) (n0 : Nat) (W0 : World) (T : List Nat) (N : Nat) (r : Ren) (st : St) (a : Act) (W : World) : Prop where
  post : Post r0 n0 W0 T r N W
  free : Free r st.n N
  fits : Fits s r st.H W
  env : EnvOk s r st.env st.sz a
/-- one operation -/
theorem step_wp (hcall : CallsOk P s call) (hc : CfgOk P s c) {o : Oper} {x : Sp} (hx : StepAt c call n0 ops o x) (hl : Low x.st.H x.st.n) {r : Ren} {a : Act} {W : World} {K : Act → World → Prop} {Q : Exit → Act → World → Prop}
    (hz : a.tmps.size = x.st.sz) (hsee : ∀ t v, Sees ops o t → lookT x.st.env x.st.sz t = some v → v.d s r = some (a.tmps.getD t undef)) (hf : Free r x.st.n x.out.nx) (hF : Fits s r x.out.rd W)
    (hK : ∀ r' V W', Post r x.st.n W x.out.T r' x.out.nx W' → x.out.v.d s r' = some V → Fits s r' (x.out.news ++ x.out.U) W' → K (a.put x.dst V) W') :
    if Region.wanted o (yielded ops a.tmps) then o.wp P a W K Q ∨ (o.asks P a W ∧ LetsOut Q) else K (a.put o.dst undef) W := by
  have hw := want_ok (s := s) (r := r) (a := a) (fun t v ht hv => hsee t v (.inr ht) hv) hz hx.want
  rw [hw]
  cases hxw : x.w with
  | true =>
    rw [if_pos rfl]
    left
    obtain ⟨hsim, hst⟩ := evOper_ok hcall hl hc (hx.yes hxw)
    refine hsim r a W (fun y hy => evX_rl fun t v ht hv => hsee t v (.inl (ht ▸ hy)) hv) (fun p hp => hl p (hst.rd p hp)) hf hF K Q fun r' V W' h1 h2 h3 => ?_
    have := hK r' V W' h1 h2 h3
    rwa [hx.dst] at this
  | false =>
    rw [if_neg (by simp)]
    have he := hx.no hxw
    rw [he] at hK
    have := hK r undef W (Post.refl r _ W) rfl fits_nil
    rwa [hx.dst] at this
/-- a region in its own order -/
theorem chain_wp (hcall : CallsOk P s call) (hc : CfgOk P s c) {r0 : Ren} {W0 : World} {Tf : List Nat} {N : Nat} {Q : Exit → Act → World → Prop} : ∀ {l : List Oper} {st st' : St} {xs : List Sp}, Chain c call n0 ops l st xs st' → Low st.H st.n → n0 ≤ st.n → st'.n ≤ N → (∀ b ∈ st'.T, b ∈ Tf) →
    ∀ {r : Ren} {a : Act} {W : World}, Rel s r0 n0 W0 Tf N r st a W → (∀ r' a' W', Rel s r0 n0 W0 Tf N r' st' a' W' → Q .normal a' W') → wpList P ops Q l a W
  | [], st, st', xs, h, _, _, _, _, r, a, W, hR, hQ => by
    obtain ⟨rfl, rfl⟩ := h
    exact hQ r a W hR
  | o :: l, st, st', xs, h, hl, hn, hN, hT, r, a, W, hR, hQ => by
    have hS := chain_steps hcall hc h hl hn
    obtain ⟨x, xs', rfl, rfl, hx, h⟩ := h
    obtain ⟨hst, _, _, hnx, _, hxT⟩ := hS.stat 0 x rfl
    have hle := hst.le
    refine step_wp hcall hc hx hl hR.env.size (fun t v _ hv => hR.env.at' t v hv) (fun b h1 h2 => hR.free b h1 (by omega)) (hR.fits.sublist hst.rd) fun r' V W' hP hV hF => ?_
    have hfree : Free r x.st.n x.out.nx := fun b h1 h2 => hR.free b h1 (by omega)
    refine chain_wp hcall hc h (by rw [hx.H, hx.n]; exact low_next hl hst) (by rw [hx.n]; omega) hN hT (r := r') ⟨?_, ?_, ?_, ?_⟩ hQ
    · refine hR.post.inn hP hn (by omega) fun b hb => ⟨?_, fun hbn => hT b (hxT b hb hbn)⟩
      obtain ⟨k, hk⟩ := hst.T b hb
      have := hl _ (hst.rd _ hk)
      simp only at this
      omega
    · rw [hx.n]
      exact hP.free hR.free
    · rw [hx.H]
      exact fits_next hR.fits hl hst hP hfree hF
    · rw [hx.sz]
      exact (hR.env.sub (hP.sub hfree)).put hx.put hV
end
end Go.Proofs.YtmlpimckfneliaaGreat.Ev
