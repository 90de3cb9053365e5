/- A run reckoned beforehand, quickly: a function is found as the long way finds it. No conditions. -/
import Derived.Test.YtmlpimckfneliaaGreatFe
namespace Go.Proofs.YtmlpimckfneliaaGreat.Ev
section
variable {c : Cfg} {sz : Nat} {call : CallF} {n0 : Nat}
theorem cont_le {ih ih' : SeqF} {env : Tr} {H : Hp} {n : Nat} {T : List Nat} {lg : List Lg} {d : Option Tmp} {o : Out} {cx : Cx} (h : ∀ env H n T lg, Le (ih env H n T lg) (ih' env H n T lg)) : Le (cont cx ih env H n T lg d o) (cont cx ih' env H n T lg d o) := bnd_le fun _ => h ..
theorem seq_sz {ops : List Oper} : ∀ {l : List Oper} {st st' : St} {lg lg' : List Lg}, evSeq c call n0 ops l st lg = some (st', lg') → st'.sz = st.sz
  | [], st, st', lg, lg', h => by
    injection h with h
    injection h with h1 h2
    rw [h1]
  | o :: l, st, st', lg, lg', h => by
    unfold evSeq at h
    split at h
    · cases h
    · split at h
      · cases h
      · exact (seq_sz h).trans rfl
    · split at h
      · cases h
      · split at h
        · cases h
        · rw [frcN_eq] at h
          exact (seq_sz h).trans rfl
theorem gd_le {v : CV} {w : Bool} {Y N y : R} (hY : v = .p (.one (.lit (.bool w))) → Le Y y) (hN : v = .p (.one (.lit (.bool (!w)))) ∨ v = .tup [] → Le N y) : Le (gd1 w Y N v) y := by
  cases v with
  | p p =>
    cases p with
    | ag cs => exact .no _
    | one a =>
      cases a with
      | lit u =>
        cases u with
        | bool b =>
          cases b <;> cases w
          · exact hY rfl
          · exact hN (.inl rfl)
          · exact hN (.inl rfl)
          · exact hY rfl
        | _ => exact .no _
      | _ => exact .no _
  | tup l =>
    cases l with
    | nil => exact hN (.inr rfl)
    | cons p l => exact .no _
theorem evSeq_cons (ops : List Oper) (o : Oper) (l : List Oper) (st : St) (lg : List Lg) : evSeq c call n0 ops (o :: l) st lg = (match evWant ops st.env st.sz o with
    | none => none
    | some false => match putT st.env st.sz o.dst uv0 with
      | none => none
      | some env => evSeq c call n0 ops l ⟨env, st.sz, st.H, st.n, st.T⟩ (⟨st.n, st.n, [], []⟩ :: lg)
    | some true => match evOper c call (evX st.env st.sz) o st.H st.n with
      | none => none
      | some r => match putT st.env st.sz o.dst r.v with
        | none => none
        | some env => frcN r.nx fun nx => evSeq c call n0 ops l ⟨env, st.sz, nextH st.H r, nx, addN st.T n0 r.T⟩ (⟨st.n, nx, r.T, namesH r.rd⟩ :: lg)) := by
  rw [evSeq]
  rfl
theorem evCode_seq (x y : Code) (st : St) : evCode c call n0 (.seq x y) st = (match evCode c call n0 x st with
    | some (.nm, st') => evCode c call n0 y st'
    | r => r) := by
  rw [evCode]
  rfl
theorem evCode_block (id : Nat) (x : Code) (st : St) : evCode c call n0 (.block id x) st = (match evCode c call n0 x st with
    | some (.ex i, st') => (match Nat.beq i id with
      | true => some (.nm, st')
      | false => some (.ex i, st'))
    | r => r) := by
  rw [evCode]
  rfl
/-- a region's operations -/
theorem seq_le {ops : List Oper} {fin : SeqF} : ∀ (l : List Oper) (env : Tr) (H : Hp) (n : Nat) (T : List Nat) (lg : List Lg), Le (xSeq (cL c ops sz l) ⟨c, sz, call, n0⟩ fin env H n T lg) (bnd (evSeq c call n0 ops l ⟨env, sz, H, n, T⟩ lg) fun r => fin r.1.env r.1.H r.1.n r.1.T r.2)
  | [], env, H, n, T, lg => .of rfl
  | o :: l, env, H, n, T, lg => by
    have ih := seq_le (ops := ops) (fin := fin) l
    show Le (xOp (cO c ops sz o) ⟨c, sz, call, n0⟩ (xSeq (cL c ops sz l) ⟨c, sz, call, n0⟩ fin) env H n T lg) _
    have wanted : ∀ {y : R}, evWant ops env sz o = some true → Le (xOp (cP c sz o.op (cD sz o.dst)) ⟨c, sz, call, n0⟩ (xSeq (cL c ops sz l) ⟨c, sz, call, n0⟩ fin) env H n T lg) (bnd (evSeq c call n0 ops (o :: l) ⟨env, sz, H, n, T⟩ lg) fun r => fin r.1.env r.1.H r.1.n r.1.T r.2) := by
      intro y hw
      refine (xOp_le o.op).trans ?_
      unfold long
      rw [evSeq_cons]
      simp only [hw, evOper]
      cases ho : evOp c call (evX env sz) o.op H n with
      | none => exact .no _
      | some r =>
        show Le (cont ⟨c, sz, call, n0⟩ _ env H n T lg o.dst r) _
        refine (cont_le (fun env H n T lg => ih env H n T lg)).trans ?_
        unfold cont
        simp only
        cases putT env sz o.dst r.v with
        | none => exact .no _
        | some env' =>
          simp only [bnd, frcN_eq]
          exact .rfl' _
    have unwanted : evWant ops env sz o = some false → Le (contP (cD sz o.dst) (xSeq (cL c ops sz l) ⟨c, sz, call, n0⟩ fin) env H n T lg uv0) (bnd (evSeq c call n0 ops (o :: l) ⟨env, sz, H, n, T⟩ lg) fun r => fin r.1.env r.1.H r.1.n r.1.T r.2) := by
      intro hw
      rw [contP_eq (c := c) (call := call) (n0 := n0)]
      refine (cont_le (fun env H n T lg => ih env H n T lg)).trans ?_
      rw [evSeq_cons]
      simp only [hw]
      unfold cont
      show Le (bnd (putT env sz o.dst uv0) _) _
      cases putT env sz o.dst uv0 with
      | none => exact .no _
      | some env' => exact .rfl' _
    unfold cO
    split
    · rename_i hg
      exact wanted (y := none) (by unfold evWant; rw [hg])
    · rename_i j w hg
      split
      · exact .no _
      · rename_i g hj
        split
        · exact .no _
        · rename_i t ht
          show Le (xX (cS sz t) env (gd1 w (xOp (cP c sz o.op (cD sz o.dst)) ⟨c, sz, call, n0⟩ (xSeq (cL c ops sz l) ⟨c, sz, call, n0⟩ fin) env H n T lg) (contP (cD sz o.dst) (xSeq (cL c ops sz l) ⟨c, sz, call, n0⟩ fin) env H n T lg uv0))) _
          rw [xX_eq, cS_val]
          cases hl : lookT env sz t with
          | none => exact .no _
          | some v =>
            refine gd_le (fun e => ?_) (fun e => ?_)
            · refine wanted (y := none) ?_
              unfold evWant
              simp only [hg, hj, ht, hl, e]
              cases w <;> rfl
            · refine unwanted ?_
              unfold evWant
              rcases e with e | e
              · simp only [hg, hj, ht, hl, e]
                cases w <;> rfl
              · simp only [hg, hj, ht, hl, e]
/-- what the quick look finds in order is in order -/
theorem okOne_of {ms : List Nat} {j : Nat} {x : Lg} : ∀ {l : List Lg} {i : Nat}, (∀ (k : Nat) (y : Lg), l[k]? = some y → clash x y = false ∨ Nat.testBit (ms.getD j 0) (i + k) = true) → okOne ms j x i l = true
  | [], _, _ => rfl
  | y :: l, i, h => by
    unfold okOne
    rw [Bool.and_eq_true]
    refine ⟨?_, okOne_of (l := l) (i := Nat.succ i) fun k z hz => ?_⟩
    · rcases h 0 y rfl with h1 | h1
      · unfold clash at h1
        rw [← Bool.or_assoc] at h1
        rw [h1]
        simp
      · rw [Nat.add_zero] at h1
        rw [h1]
        rfl
    · have := h (k + 1) z (by simpa using hz)
      rw [show Nat.succ i + k = i + (k + 1) by omega]
      exact this
theorem okAll_of {ms : List Nat} {all : List Lg} : ∀ {l : List Lg} {j : Nat}, (∀ (k : Nat) (x : Lg), l[k]? = some x → okOne ms (j + k) x 0 (all.take (j + k)) = true) → okAll ms all j l = true
  | [], _, _ => rfl
  | x :: l, j, h => by
    unfold okAll
    rw [Bool.and_eq_true]
    refine ⟨by simpa using h 0 x rfl, okAll_of (l := l) (j := Nat.succ j) fun k z hz => ?_⟩
    have := h (k + 1) z (by simpa using hz)
    rw [show Nat.succ j + k = j + (k + 1) by omega]
    exact this
theorem okP_mem {ms : List Nat} {j : Nat} {x : Lg} : ∀ {l : List (Nat × Lg)}, okP ms j x l = true → ∀ p ∈ l, clash x p.2 = false ∨ Nat.testBit (ms.getD j 0) p.1 = true
  | [], _, p, hp => by cases hp
  | q :: l, h, p, hp => by
    have h : Bool.rec (motive := fun _ => Bool) (okP ms j x l) (Bool.rec (motive := fun _ => Bool) false (okP ms j x l) (Nat.testBit (ms.getD j 0) q.1)) (clash x q.2) = true := h
    have h1 : (clash x q.2 = false ∨ Nat.testBit (ms.getD j 0) q.1 = true) ∧ okP ms j x l = true := by
      cases hc : clash x q.2 with
      | false =>
        rw [hc] at h
        exact ⟨.inl rfl, h⟩
      | true =>
        rw [hc] at h
        cases ht : Nat.testBit (ms.getD j 0) q.1 with
        | false => rw [ht] at h; cases h
        | true =>
          rw [ht] at h
          exact ⟨.inr rfl, h⟩
    rcases List.mem_cons.1 hp with rfl | hp
    · exact h1.1
    · exact okP_mem h1.2 p hp
theorem inN_none : ∀ {l : List Nat} {a : Nat}, inN l a a = false
  | [], _ => rfl
  | x :: l, a => by
    unfold inN
    rw [inN_none, Bool.or_false]
    cases h : (Nat.ble a x && Nat.blt x a) with
    | false => rfl
    | true =>
      rw [Bool.and_eq_true, Nat.blt_eq] at h
      have := Nat.le_of_ble_eq_true h.1
      omega
theorem meetN_none : ∀ {l : List Nat}, meetN l [] = false
  | [] => rfl
  | x :: l => by
    unfold meetN
    rw [meetN_none]
    rfl
theorem clash_still {x y : Lg} (hx : x.T = []) (hy : stillL y = true) : clash x y = false := by
  unfold stillL at hy
  unfold clash
  split at hy
  · rename_i h
    rw [h, hx, Nat.eq_of_beq_eq_true hy, inN_none]
    rfl
  · cases hy
theorem clash_mute {x y : Lg} (hx : x.T = []) (hr : x.rd = []) : clash x y = false := by
  unfold clash
  rw [hx, hr, meetN_none]
  rfl
theorem okF_of {ms : List Nat} : ∀ {l : List Lg} {j : Nat} {E W : List (Nat × Lg)} {pre : List Lg}, okF ms l j E W = true → pre.length = j → (∀ (i : Nat) (y : Lg), pre[i]? = some y → (i, y) ∈ E ∧ ((i, y) ∈ W ∨ stillL y = true)) →
    ∀ (k : Nat) (x : Lg), l[k]? = some x → ∀ (i : Nat) (y : Lg), (pre ++ l.take k)[i]? = some y → clash x y = false ∨ Nat.testBit (ms.getD (j + k) 0) i = true
  | [], _, _, _, _, _, _, _, k, x, hx, _, _, _ => by simp at hx
  | z :: l, j, E, W, pre, h, hj, hE, k, x, hx, i, y, hy => by
    have h : Bool.rec (motive := fun _ => Bool) false (Bool.rec (motive := fun _ => Bool) (okF ms l (Nat.succ j) ((j, z) :: E) ((j, z) :: W)) (okF ms l (Nat.succ j) ((j, z) :: E) W) (stillL z)) (okX ms j z E W) = true := h
    cases hx0 : okX ms j z E W with
    | false => rw [hx0] at h; cases h
    | true =>
      rw [hx0] at h
      cases k with
      | zero =>
        simp only [List.getElem?_cons_zero, Option.some.injEq] at hx
        subst hx
        simp only [List.take_zero, List.append_nil] at hy
        rw [Nat.add_zero]
        obtain ⟨h1, h2⟩ := hE i y hy
        unfold okX at hx0
        split at hx0
        · rename_i hT
          split at hx0
          · rename_i hr
            exact .inl (clash_mute hT hr)
          · rcases h2 with h2 | h2
            · exact okP_mem hx0 (i, y) h2
            · exact .inl (clash_still hT h2)
        · exact okP_mem hx0 (i, y) h1
      | succ k =>
        simp only [List.getElem?_cons_succ] at hx
        have hy' : ((pre ++ [z]) ++ l.take k)[i]? = some y := by simpa using hy
        rw [show j + (k + 1) = Nat.succ j + k by omega]
        have hpre : ∀ (W' : List (Nat × Lg)), (∀ p ∈ W, p ∈ W') → ((j, z) ∈ W' ∨ stillL z = true) → ∀ (i : Nat) (y : Lg), (pre ++ [z])[i]? = some y → (i, y) ∈ (j, z) :: E ∧ ((i, y) ∈ W' ∨ stillL y = true) := by
          intro W' hW hz i y hi
          rcases Nat.lt_or_ge i pre.length with hlt | hge
          · rw [List.getElem?_append_left hlt] at hi
            obtain ⟨h1, h2⟩ := hE i y hi
            exact ⟨List.mem_cons_of_mem _ h1, h2.imp (hW _) id⟩
          · rw [List.getElem?_append_right hge] at hi
            have h0 : i - pre.length = 0 := by
              rcases Nat.eq_zero_or_pos (i - pre.length) with h0 | h0
              · exact h0
              · rw [List.getElem?_eq_none (by simp; omega)] at hi
                cases hi
            rw [h0] at hi
            simp only [List.getElem?_cons_zero, Option.some.injEq] at hi
            have hij : i = j := by omega
            subst hi
            subst hij
            exact ⟨List.mem_cons_self .., hz⟩
        cases hs : stillL z with
        | true =>
          rw [hs] at h
          exact okF_of h (by simp [hj]) (hpre W (fun _ h => h) (.inr hs)) k x hx i y hy'
        | false =>
          rw [hs] at h
          exact okF_of h (by simp [hj]) (hpre _ (fun _ h => List.mem_cons_of_mem _ h) (.inl (List.mem_cons_self ..))) k x hx i y hy'
theorem okF_ok {ms : List Nat} {l : List Lg} (h : okF ms l 0 [] [] = true) : okAll ms l 0 l = true :=
  okAll_of fun k x hx => okOne_of fun i y hy => by
    rw [Nat.zero_add] at hy ⊢
    have := okF_of (pre := []) h rfl (fun i y hi => by simp at hi) k x hx i y (by simpa using hy)
    rw [Nat.zero_add] at this ⊢
    exact this
def fits5 (K : CodeK) (r : Ex × St) : R := K r.1 r.2.env r.2.H r.2.n r.2.T
theorem reg_le {ops : Array Oper} {draw : Bool} {id : Nat} (env : Tr) (H : Hp) (n : Nat) (T : List Nat) (K : CodeK) : Le (cReg (cL c ops.toList sz ops.toList) ops draw ⟨c, sz, call, n0⟩ env H n T K) (bnd (evCode c call n0 (.region id ops draw) ⟨env, sz, H, n, T⟩) (fits5 K)) := by
  unfold cReg
  refine (seq_le ops.toList env H n T []).trans ?_
  unfold evCode evRegion
  cases evSeq c call n0 ops.toList ops.toList ⟨env, sz, H, n, T⟩ [] with
  | none => exact .no _
  | some r =>
    obtain ⟨st, lg⟩ := r
    cases draw with
    | false => exact .rfl' _
    | true =>
      show Le (finC (okF (masks ops.toList []) lg.reverse 0 [] []) (anyT n lg) (K .nm st.env st.H st.n st.T)) _
      simp only [Bool.true_and]
      unfold finC
      cases hq : okF (masks ops.toList []) lg.reverse 0 [] [] with
      | true =>
        rw [okF_ok hq]
        cases anyT n lg with
        | false => exact .rfl' _
        | true => exact .rfl' _
      | false =>
        cases anyT n lg with
        | false => exact .rfl' _
        | true => exact .no _
theorem reg_sz {ops : Array Oper} {draw : Bool} {st st' : St} (h : evRegion c call n0 ops draw st = some st') : st'.sz = st.sz := by
  unfold evRegion at h
  split at h
  · cases h
  · rename_i st1 lg he
    have h1 := seq_sz he
    split at h
    · injection h with h
      rw [← h, h1]
    · split at h
      · injection h with h
        rw [← h, h1]
      · cases h
theorem iter_sz {f : St → Option (Ex × St)} (hf : ∀ {st st' : St} {ex : Ex}, f st = some (ex, st') → st'.sz = st.sz) : ∀ (k : Nat) {st st' : St} {ex : Ex}, iter f k st = some (ex, st') → st'.sz = st.sz
  | 0, st, st', ex, h => by cases h
  | k + 1, st, st', ex, h => by
    unfold iter at h
    split at h
    · rename_i st1 h1
      exact (iter_sz hf k h).trans (hf h1)
    · exact hf h
theorem code_sz : ∀ (code : Code) {st st' : St} {ex : Ex}, evCode c call n0 code st = some (ex, st') → st'.sz = st.sz := by
  intro code
  induction code with
  | skip =>
    intro st st' ex h
    simp only [evCode, Option.some.injEq, Prod.mk.injEq] at h
    rw [h.2]
  | label l =>
    intro st st' ex h
    simp only [evCode, Option.some.injEq, Prod.mk.injEq] at h
    rw [h.2]
  | exit id =>
    intro st st' ex h
    simp only [evCode, Option.some.injEq, Prod.mk.injEq] at h
    rw [h.2]
  | ret =>
    intro st st' ex h
    simp only [evCode, Option.some.injEq, Prod.mk.injEq] at h
    rw [h.2]
  | region id ops draw =>
    intro st st' ex h
    unfold evCode at h
    split at h
    · rename_i st1 h1
      simp only [Option.some.injEq, Prod.mk.injEq] at h
      rw [← h.2]
      exact reg_sz h1
    · cases h
  | seq x y ihx ihy =>
    intro st st' ex h
    unfold evCode at h
    split at h
    · rename_i st1 h1
      exact (ihy h).trans (ihx h1)
    · exact ihx h
  | cond x y z ihy ihz =>
    intro st st' ex h
    unfold evCode at h
    split at h
    · exact ihy h
    · exact ihz h
    · cases h
  | block id x ih =>
    intro st st' ex h
    unfold evCode at h
    split at h
    · rename_i i st1 h1
      split at h
      · simp only [Option.some.injEq, Prod.mk.injEq] at h
        rw [← h.2]
        exact ih h1
      · simp only [Option.some.injEq, Prod.mk.injEq] at h
        rw [← h.2]
        exact ih h1
    · exact ih h
  | loop x ih =>
    intro st st' ex h
    unfold evCode at h
    exact iter_sz (fun h => ih h) 700 h
  | _ => intro st st' ex h; cases h
theorem thenK_le {f : CodeF} {g : St → Option (Ex × St)} {K : CodeK} {cx : Cx} (hf : ∀ env H n T K, Le (f cx env H n T K) (bnd (g ⟨env, sz, H, n, T⟩) (fits5 K))) {r : Ex × St} (hr : r.2.sz = sz) :
    Le (fits5 (thenK f cx K) r) (bnd (match r with | (.nm, st) => g st | r => some r) (fits5 K)) := by
  obtain ⟨ex, st⟩ := r
  cases ex with
  | nm =>
    have := hf st.env st.H st.n st.T K
    obtain ⟨env, z, H, n, T⟩ := st
    subst hr
    exact this
  | ex id => exact .rfl' _
  | rt => exact .rfl' _
theorem loop_le {f : CodeF} {g : St → Option (Ex × St)} {cx : Cx} (hf : ∀ env H n T K, Le (f cx env H n T K) (bnd (g ⟨env, sz, H, n, T⟩) (fits5 K))) (hz : ∀ {st st' : St} {ex : Ex}, g st = some (ex, st') → st'.sz = st.sz) : ∀ (k : Nat) (env : Tr) (H : Hp) (n : Nat) (T : List Nat) (K : CodeK), Le (xLoop k f cx env H n T K) (bnd (iter g k ⟨env, sz, H, n, T⟩) (fits5 K))
  | 0, _, _, _, _, _ => .no _
  | k + 1, env, H, n, T, K => by
    show Le (f cx env H n T (thenK (xLoop k f) cx K)) _
    refine (hf env H n T _).trans ?_
    unfold iter
    cases hg : g ⟨env, sz, H, n, T⟩ with
    | none => exact .no _
    | some r =>
      have := thenK_le (K := K) (loop_le hf hz k) (r := r) (by obtain ⟨ex, st⟩ := r; exact hz hg)
      obtain ⟨ex, st⟩ := r
      cases ex with
      | nm => exact this
      | ex id => exact this
      | rt => exact this
theorem code_le : ∀ (code : Code) (env : Tr) (H : Hp) (n : Nat) (T : List Nat) (K : CodeK), Le (xCode (cC c sz code) ⟨c, sz, call, n0⟩ env H n T K) (bnd (evCode c call n0 code ⟨env, sz, H, n, T⟩) (fits5 K)) := by
  intro code
  induction code with
  | skip => intro env H n T K; exact .rfl' _
  | label l => intro env H n T K; exact .rfl' _
  | exit id => intro env H n T K; exact .rfl' _
  | ret => intro env H n T K; exact .rfl' _
  | region id ops draw => intro env H n T K; exact reg_le env H n T K
  | seq x y ihx ihy =>
    intro env H n T K
    show Le (xCode (cC c sz x) ⟨c, sz, call, n0⟩ env H n T (thenK (xCode (cC c sz y)) ⟨c, sz, call, n0⟩ K)) _
    refine (ihx env H n T _).trans ?_
    rw [evCode_seq]
    cases hg : evCode c call n0 x ⟨env, sz, H, n, T⟩ with
    | none => exact .no _
    | some r =>
      have := thenK_le (K := K) ihy (r := r) (by obtain ⟨ex, st⟩ := r; exact code_sz x hg)
      obtain ⟨ex, st⟩ := r
      cases ex with
      | nm => exact this
      | ex id => exact this
      | rt => exact this
  | cond x y z ihy ihz =>
    intro env H n T K
    show Le (xX (cX sz x) env (cond1 (xCode (cC c sz y)) (xCode (cC c sz z)) ⟨c, sz, call, n0⟩ env H n T K)) _
    refine xC_le fun v hv => boolK_le (fun e => ?_) (fun e => ?_)
    · unfold evCode
      simp only [hv, e]
      exact ihy env H n T K
    · unfold evCode
      simp only [hv, e]
      exact ihz env H n T K
  | block id x ih =>
    intro env H n T K
    show Le (xCode (cC c sz x) ⟨c, sz, call, n0⟩ env H n T (blockK id K)) _
    refine (ih env H n T _).trans ?_
    rw [evCode_block]
    cases evCode c call n0 x ⟨env, sz, H, n, T⟩ with
    | none => exact .no _
    | some r =>
      obtain ⟨ex, st⟩ := r
      cases ex with
      | nm => exact .rfl' _
      | rt => exact .rfl' _
      | ex i =>
        show Le (Bool.rec (K (.ex i) st.env st.H st.n st.T) (K .nm st.env st.H st.n st.T) (Nat.beq i id)) _
        simp only
        cases Nat.beq i id <;> exact .rfl' _
  | loop x ih =>
    intro env H n T K
    show Le (xLoop 700 (xCode (cC c sz x)) ⟨c, sz, call, n0⟩ env H n T K) _
    unfold evCode
    exact loop_le ih (fun h => code_sz x h) 700 env H n T K
  | _ => intro env H n T K; exact .no _
theorem envK_eq (l : List CV) (K : Tr → R) : envK l K = K (envOf l 0 e3) := by
  unfold envK
  split <;> rfl
theorem func_le (fn : Func) (args : List CV) (H : Hp) (n : Nat) : Le (xFunc c call fn args H n) (evFunc c call fn args H n) := by
  unfold xFunc evFunc
  cases fn.body with
  | none => exact .no _
  | some b =>
    simp only
    cases (Nat.ble args.length fn.ntmps && Nat.ble fn.ntmps 500) with
    | false => exact .no _
    | true =>
      simp only
      rw [spH_eq, envK_eq]
      generalize gc c 2000 (namesVs args) H [] = H1
      unfold xBody evBody
      refine (code_le b _ H1 n [] _).trans ?_
      cases hg : evCode c call n b ⟨envOf args 0 e3, fn.ntmps, H1, n, []⟩ with
      | none => exact .no _
      | some r =>
        obtain ⟨ex, st⟩ := r
        have hz := code_sz b hg
        have key : Le (endR c fn H1 n st.env st.H st.n st.T) (match resAll c st fn.results.toList with
            | none => none
            | some v => some (outOf c n H1 v st)) := by
          unfold endR
          obtain ⟨env, z, H', n', T⟩ := st
          simp only at hz
          subst hz
          simp only
          cases resAll c ⟨env, fn.ntmps, H', n', T⟩ fn.results.toList with
          | none => exact .no _
          | some v =>
            simp only
            rw [spO_eq]
            exact .rfl' _
        cases ex with
        | nm => exact key
        | rt => exact key
        | ex id => exact .no _
end
end Go.Proofs.YtmlpimckfneliaaGreat.Ev
