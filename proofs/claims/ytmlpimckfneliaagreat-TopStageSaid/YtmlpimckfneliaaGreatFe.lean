/- A run reckoned beforehand, quickly: each operation is found as the long way finds it. No conditions. -/
import Derived.Test.YtmlpimckfneliaaGreatFd
namespace Go.Proofs.YtmlpimckfneliaaGreat.Ev
def cont (cx : Cx) (ih : SeqF) (env : Tr) (H : Hp) (n : Nat) (T : List Nat) (lg : List Lg) (d : Option Tmp) (o : Out) : R :=
  bnd (putT env cx.sz d o.v) fun env' => ih env' (nextH H o) o.nx (addN T cx.n0 o.T) (⟨n, o.nx, o.T, namesH o.rd⟩ :: lg)
section
variable {c : Cfg} {sz : Nat} {call : CallF} {n0 : Nat} {ih : SeqF} {env : Tr} {H : Hp} {n : Nat} {T : List Nat} {lg : List Lg} {d : Option Tmp}
theorem contP_eq (v : CV) : contP (cD sz d) ih env H n T lg v = cont ⟨c, sz, call, n0⟩ ih env H n T lg d (pure1 v n) := by
  unfold contP
  rw [putK_eq]
  rfl
theorem contR_eq (b : Nat) (k : CB) (v : CV) : contR (cD sz d) ih env H n T lg b v = cont ⟨c, sz, call, n0⟩ ih env H n T lg d ⟨v, [], n, [], [], [(b, k)]⟩ := by
  unfold contR
  rw [putK_eq]
  rfl
theorem contN_eq (v : CV) (k : CB) : contN (cD sz d) ih env H n T lg v k = cont ⟨c, sz, call, n0⟩ ih env H n T lg d ⟨v, [(n, k)], Nat.succ n, [], [], []⟩ := by
  unfold contN cont
  rw [putK_eq]
  have e : contN2 k ih H n T lg = fun env' => ih env' (nextH H ⟨v, [(n, k)], Nat.succ n, [], [], []⟩) (Nat.succ n) (addN T n0 []) (⟨n, Nat.succ n, [], namesH []⟩ :: lg) := by
    funext env'
    unfold contN2
    rw [fcN_eq]
    rfl
  rw [e]
theorem contO_eq (o : Out) : contO (cD sz d) ⟨c, sz, call, n0⟩ ih env H n T lg o = cont ⟨c, sz, call, n0⟩ ih env H n T lg d o := by
  obtain ⟨v, news, nx, T', U, rd⟩ := o
  show contO1 v news nx T' U rd (cD sz d) ⟨c, sz, call, n0⟩ ih env H n T lg = _
  unfold contO1 cont
  rw [putK_eq]
  have e : contO2 news nx T' U rd ⟨c, sz, call, n0⟩ ih H n T lg = fun env' => ih env' (nextH H ⟨v, news, nx, T', U, rd⟩) nx (addN T n0 T') (⟨n, nx, T', namesH rd⟩ :: lg) := by
    funext env'
    unfold contO2
    rw [fcN_eq]
    unfold contO3
    rw [nextK_eq H news T' U v nx rd]
    unfold contO4
    rw [addK_eq]
    rfl
  rw [e]
/-- what the long way makes of an operation -/
def long (c : Cfg) (sz : Nat) (call : CallF) (n0 : Nat) (ih : SeqF) (env : Tr) (H : Hp) (n : Nat) (T : List Nat) (lg : List Lg) (d : Option Tmp) (op : Op) : R :=
  bnd (evOp c call (evX env sz) op H n) (cont ⟨c, sz, call, n0⟩ ih env H n T lg d)
theorem opOld_eq (op : Op) : opOld op (cD sz d) ⟨c, sz, call, n0⟩ ih env H n T lg = long c sz call n0 ih env H n T lg d op := by
  unfold opOld oldK long
  simp only
  cases evOp c call (evX env sz) op H n with
  | none => rfl
  | some o =>
    simp only
    rw [frcO_eq, contO_eq]
    rfl
theorem old_le (op : Op) : Le (xOp (.old op (cD sz d)) ⟨c, sz, call, n0⟩ ih env H n T lg) (long c sz call n0 ih env H n T lg d op) := .of (opOld_eq op)
theorem oneK_le {v : CV} {K : CA → R} {y : R} (h : ∀ a, v = .p (.one a) → Le (K a) y) : Le (oneK v K) y := by
  cases v with
  | p p =>
    cases p with
    | one a => exact h a rfl
    | ag cs => exact .no _
  | tup l => exact .no _
theorem ptrK_le {v : CV} {K : Nat → Nat → R} {y : R} (h : ∀ b off, v = .p (.one (.ptr b off)) → Le (K b off) y) : Le (ptrK v K) y :=
  oneK_le fun a ha => by
    subst ha
    cases a with
    | ptr b off => exact h b off rfl
    | _ => exact .no _
theorem slK_le {v : CV} {K : Nat → Nat → Nat → R} {y : R} (h : ∀ b off len cap, v = .p (.one (.sl b off len cap)) ∨ v = .p (.one (.slu b off len cap)) → Le (K b off len) y) : Le (slK v K) y :=
  oneK_le fun a ha => by
    subst ha
    cases a with
    | sl b off len cap => exact h b off len cap (.inl rfl)
    | slu b off len cap => exact h b off len cap (.inr rfl)
    | _ => exact .no _
theorem natK_le {v : CV} {K : Nat → R} {y : R} (h : ∀ k m, v = .p (.one (.lit (.int k (.ofNat m)))) → Le (K m) y) : Le (natK v K) y :=
  oneK_le fun a ha => by
    subst ha
    cases a with
    | lit u =>
      cases u with
      | int k i =>
        cases i with
        | ofNat m => exact h k m rfl
        | negSucc m => exact .no _
      | _ => exact .no _
    | _ => exact .no _
theorem boolK_le {v : CV} {t f y : R} (ht : v = .p (.one (.lit (.bool true))) → Le t y) (hf : v = .p (.one (.lit (.bool false))) → Le f y) : Le (boolK v t f) y :=
  oneK_le fun a ha => by
    subst ha
    cases a with
    | lit u =>
      cases u with
      | bool b =>
        cases b with
        | true => exact ht rfl
        | false => exact hf rfl
      | _ => exact .no _
    | _ => exact .no _
theorem nk_le {v : CV} {K : IntKind → Nat → R} {e y : R} (h : ∀ k m, v = .p (.one (.lit (.int k (.ofNat m)))) → Le (K k m) y) (he : Le e y) : Le (nk v K e) y := by
  cases v with
  | p p =>
    cases p with
    | one a =>
      cases a with
      | lit u =>
        cases u with
        | int k i =>
          cases i with
          | ofNat m => exact h k m rfl
          | negSucc m => exact he
        | _ => exact he
      | _ => exact he
    | ag cs => exact he
  | tup l => exact he
theorem xC_le {x : Operand} {K : CV → R} {y : R} (h : ∀ v, evX env sz x = some v → Le (K v) y) : Le (xX (cX sz x) env K) y := by
  rw [xC_eq]
  cases hx : evX env sz x with
  | none => exact .no _
  | some v => exact h v hx
theorem findK_le {b : Nat} {K : CB → R} {y : R} (h : ∀ k, findH H b = some k → Le (K k) y) : Le (findK K b H) y := by
  rw [findK_eq]
  cases hx : findH H b with
  | none => exact .no _
  | some v => exact h v hx
/-- it comes to this -/
theorem long_of {op : Op} {o : Out} (h : evOp c call (evX env sz) op H n = some o) : Le (cont ⟨c, sz, call, n0⟩ ih env H n T lg d o) (long c sz call n0 ih env H n T lg d op) := by
  unfold long
  rw [h]
  exact .rfl' _
theorem mv_le {op : Op} {x : Operand} (h : ∀ v, evX env sz x = some v → evOp c call (evX env sz) op H n = some (pure1 v n)) : Le (xOp (.mv (cX sz x) (cD sz d)) ⟨c, sz, call, n0⟩ ih env H n T lg) (long c sz call n0 ih env H n T lg d op) := by
  show Le (xX (cX sz x) env (contP (cD sz d) ih env H n T lg)) _
  refine xC_le fun v hv => ?_
  rw [contP_eq (c := c) (call := call) (n0 := n0)]
  exact long_of (h v hv)
theorem pick_le {x a b : Operand} : Le (xOp (.pick (cX sz x) (cX sz a) (cX sz b) (cD sz d)) ⟨c, sz, call, n0⟩ ih env H n T lg) (long c sz call n0 ih env H n T lg d (.pick x a b)) := by
  show Le (xX (cX sz x) env (pick1 (cX sz a) (cX sz b) env (contP (cD sz d) ih env H n T lg))) _
  refine xC_le fun v hv => boolK_le (fun e => xC_le fun u hu => ?_) (fun e => xC_le fun u hu => ?_)
  · rw [contP_eq (c := c) (call := call) (n0 := n0)]
    exact long_of (by simp only [evOp, evPick, hv, e, evMove, hu])
  · rw [contP_eq (c := c) (call := call) (n0 := n0)]
    exact long_of (by simp only [evOp, evPick, hv, e, evMove, hu])
theorem ld1_le {t : Nat} {x : Operand} {ti : TI} (ht : c.ty t = some ti) (ha : ti.agg = false) : Le (xOp (.ld1 (cX sz x) (cD sz d)) ⟨c, sz, call, n0⟩ ih env H n T lg) (long c sz call n0 ih env H n T lg d (.load t x)) := by
  show Le (xX (cX sz x) env (ld1a H (contR (cD sz d) ih env H n T lg))) _
  refine xC_le fun v hv => ptrK_le fun b off e => findK_le fun k hk => ?_
  show Le (nthK (ld1e (contR (cD sz d) ih env H n T lg) b) k.cs off) _
  rw [nthK_eq]
  cases hn : k.cs[off]? with
  | none => exact .no _
  | some a =>
    show Le (contR (cD sz d) ih env H n T lg b (.p (.one a))) _
    rw [contR_eq (c := c) (call := call) (n0 := n0) b k]
    exact long_of (by simp only [evOp, evLoad, ht, hv, e, evLoad2, hk, loadP, ha, hn, pv])
theorem ldA_le {t : Nat} {x : Operand} {ti : TI} {m : Nat} (ht : c.ty t = some ti) (ha : ti.agg = true) (hs : ti.size = Nat.succ m) : Le (xOp (.ldA (Nat.succ m) (cX sz x) (cD sz d)) ⟨c, sz, call, n0⟩ ih env H n T lg) (long c sz call n0 ih env H n T lg d (.load t x)) := by
  show Le (xX (cX sz x) env (ldAa (Nat.succ m) H (contR (cD sz d) ih env H n T lg))) _
  refine xC_le fun v hv => ptrK_le fun b off e => findK_le fun k hk => ?_
  show Le (at1 k.cs off (ldAe (contR (cD sz d) ih env H n T lg) b (Nat.succ m))) _
  rw [at1_eq]
  split
  · unfold ldAe
    rw [takeK_eq]
    split
    · rename_i hl
      show Le (contR (cD sz d) ih env H n T lg b (.p (.ag ((k.cs.drop off).take (Nat.succ m))))) _
      rw [contR_eq (c := c) (call := call) (n0 := n0) b k]
      have hb : Nat.beq ((k.cs.drop off).take (Nat.succ m)).length (Nat.succ m) = true := by
        rw [List.length_take, Nat.min_eq_left hl]
        exact Nat.beq_refl _
      exact long_of (by simp only [evOp, evLoad, ht, hv, e, evLoad2, hk, loadP, ha, hs, hb])
    · exact .no _
  · exact .no _
theorem st1_le {t : Nat} {x y : Operand} {ti : TI} (ht : c.ty t = some ti) (hs : ti.size = 1) : Le (xOp (.st1 (cX sz x) (cX sz y) (cD sz d)) ⟨c, sz, call, n0⟩ ih env H n T lg) (long c sz call n0 ih env H n T lg d (.store t x y)) := by
  show Le (xX (cX sz x) env (stA (cX sz y) env H n (contO (cD sz d) ⟨c, sz, call, n0⟩ ih env H n T lg))) _
  refine xC_le fun v hv => xC_le fun u hu => ptrK_le fun b off e => oneK_le fun a ea => findK_le fun k hk => ?_
  obtain ⟨t', cs, sl⟩ := k
  show Le (Bool.rec none (cellK a cs off (stE n (contO (cD sz d) ⟨c, sz, call, n0⟩ ih env H n T lg) t' cs sl b)) (okA a)) _
  rw [okA_eq]
  cases ho : litsOk [a] with
  | false => exact .no _
  | true =>
    show Le (cellK a cs off (stE n (contO (cD sz d) ⟨c, sz, call, n0⟩ ih env H n T lg) t' cs sl b)) _
    rw [cellK_eq]
    split
    · rename_i hlt
      unfold stE
      rw [contO_eq]
      have hb : (Nat.beq (CP.one a).cells.length ti.size && (Nat.ble (Nat.add off ti.size) cs.length && litsOk (CP.one a).cells)) = true := by
        rw [hs]
        have h1 : Nat.ble (Nat.add off 1) cs.length = true := Nat.ble_eq_true_of_le hlt
        simp only [CP.cells, ho, h1]
        rfl
      refine long_of ?_
      simp only [evOp, evStore, ht, hv, hu, e, ea, evStore2, hk, hb]
      rfl
    · exact .no _
theorem fa_le {t : Nat} {x : Operand} {f : Nat} {ti : TI} {o s : Nat} {ag : Bool} (ht : c.ty t = some ti) (hk : (Nat.beq ti.kind 1 || Nat.beq ti.kind 8) = true) (hf : ti.fields[f]? = some (o, Nat.succ s, ag)) : Le (xOp (.fa o (cX sz x) (cD sz d)) ⟨c, sz, call, n0⟩ ih env H n T lg) (long c sz call n0 ih env H n T lg d (.fieldAddr t x f)) := by
  show Le (xX (cX sz x) env (fa1 o (contP (cD sz d) ih env H n T lg))) _
  refine xC_le fun v hv => ptrK_le fun b off e => ?_
  unfold fa2
  rw [fcN_eq]
  show Le (contP (cD sz d) ih env H n T lg (.p (.one (.ptr b (Nat.add off o))))) _
  rw [contP_eq (c := c) (call := call) (n0 := n0)]
  refine long_of ?_
  rw [Bool.or_eq_true] at hk
  rcases hk with hk | hk
  · have hk := Nat.eq_of_beq_eq_true hk
    simp [evOp, evFA, ht, hv, e, hk, hf, pv]
  · have hk := Nat.eq_of_beq_eq_true hk
    simp [evOp, evFA, ht, hv, e, hk, hf, pv]
theorem ia_le {t : Nat} {x i : Operand} {ti te : TI} (ht : c.ty t = some ti) (hk : Nat.beq ti.kind 3 = true) (he : c.ty ti.elem = some te) : Le (xOp (.ia te.size (cX sz x) (cX sz i) (cD sz d)) ⟨c, sz, call, n0⟩ ih env H n T lg) (long c sz call n0 ih env H n T lg d (.indexAddr t x i)) := by
  show Le (xX (cX sz x) env (ia1 te.size (cX sz i) env (contP (cD sz d) ih env H n T lg))) _
  have hk := Nat.eq_of_beq_eq_true hk
  refine xC_le fun v hv => xC_le fun u hu => natK_le fun k m em => slK_le fun b off len cap e => ?_
  unfold ia4
  cases hb : Nat.blt m len with
  | false => exact .no _
  | true =>
    show Le (fcN (Nat.add off (Nat.mul m te.size)) (fa3 (contP (cD sz d) ih env H n T lg) b)) _
    rw [fcN_eq]
    show Le (contP (cD sz d) ih env H n T lg (.p (.one (.ptr b (Nat.add off (Nat.mul m te.size)))))) _
    rw [contP_eq (c := c) (call := call) (n0 := n0)]
    refine long_of ?_
    rcases e with e | e
    · simp only [evOp, evIA, ht, hv, hu, e, em, he, hk, idxP, hb, pv]
    · simp only [evOp, evIA, ht, hv, hu, e, em, he, hk, idxP, hb, pv]
theorem slow_eq (op : BinOp) (t : Nat) (lit : Bool) (x y : CV) (K : CV → R) : slow c op t lit x y K = bnd (evBin c op t lit x y) K := by
  unfold slow
  cases evBin c op t lit x y with
  | none => rfl
  | some v =>
    simp only
    rw [frcV_eq]
    rfl
theorem binK_eq (op : BinOp) (t : Nat) (lit : Bool) (x y : CV) (K : CV → R) : Le (binK c op t lit x y K) (bnd (evBin c op t lit x y) K) := by
  unfold binK
  refine nk_le (fun k a hx => nk_le (fun k' b hy => ?_) (.of (slow_eq ..))) (.of (slow_eq ..))
  show Le (Bool.rec (slow c op t lit x y K) (n64 op k a b K (slow c op t lit x y K)) (same64 op k k')) _
  cases hs : same64 op k k' with
  | false => exact .of (slow_eq ..)
  | true =>
    rcases n64_ok op a b K (slow c op t lit x y K) hs with h | ⟨v, h1, h2⟩
    · show Le (n64 op k a b K (slow c op t lit x y K)) _
      rw [h]
      exact .of (slow_eq ..)
    · show Le (n64 op k a b K (slow c op t lit x y K)) _
      rw [h2, hx, hy]
      refine .of ?_
      have : evInts op k (Int.ofNat a) k' (Int.ofNat b) = some v := h1
      simp only [evBin, this]
      rfl
theorem bin_le {op : BinOp} {t yt : Nat} {x y : Operand} : Le (xOp (.bin op t (isConst x || isConst y) (cX sz x) (cX sz y) (cD sz d)) ⟨c, sz, call, n0⟩ ih env H n T lg) (long c sz call n0 ih env H n T lg d (.binOp op t x y yt)) := by
  show Le (xX (cX sz x) env (bin1 c op t (isConst x || isConst y) (cX sz y) env (contP (cD sz d) ih env H n T lg))) _
  refine xC_le fun v hv => xC_le fun u hu => ?_
  refine (binK_eq ..).trans ?_
  cases hb : evBin c op t (isConst x || isConst y) v u with
  | none => exact .no _
  | some w =>
    show Le (contP (cD sz d) ih env H n T lg w) _
    rw [contP_eq (c := c) (call := call) (n0 := n0)]
    exact long_of (by simp only [evOp, evBin1, hv, hu, hb])
theorem box_le {t : Nat} {x : Operand} : Le (xOp (.box t (cX sz x) (cD sz d)) ⟨c, sz, call, n0⟩ ih env H n T lg) (long c sz call n0 ih env H n T lg d (.box t x)) := by
  show Le (xX (cX sz x) env (box1 t n (contN (cD sz d) ih env H n T lg))) _
  refine xC_le fun v hv => ?_
  cases v with
  | tup l => exact .no _
  | p p =>
    cases p with
    | one a =>
      show Le (Bool.rec none (contN (cD sz d) ih env H n T lg (.p (.one (.ptr n 0))) ⟨t, [a], none⟩) (okA a)) _
      rw [okA_eq]
      cases ho : litsOk [a] with
      | false => exact .no _
      | true =>
        show Le (contN (cD sz d) ih env H n T lg (.p (.one (.ptr n 0))) ⟨t, [a], none⟩) _
        rw [contN_eq (c := c) (call := call) (n0 := n0)]
        exact long_of (by simp only [evOp, evBox, hv, CP.cells, ho, pv])
    | ag cs =>
      show Le (Bool.rec none (contN (cD sz d) ih env H n T lg (.p (.one (.ptr n 0))) ⟨t, cs, none⟩) (litsOk cs)) _
      cases ho : litsOk cs with
      | false => exact .no _
      | true =>
        show Le (contN (cD sz d) ih env H n T lg (.p (.one (.ptr n 0))) ⟨t, cs, none⟩) _
        rw [contN_eq (c := c) (call := call) (n0 := n0)]
        exact long_of (by simp only [evOp, evBox, hv, CP.cells, ho, pv])
theorem call_le {k : Call} {f : FuncId} (hk : k.callee = .value (.func f)) : Le (xOp (.call f (cXs sz k.args.toList) (cD sz d)) ⟨c, sz, call, n0⟩ ih env H n T lg) (long c sz call n0 ih env H n T lg d (.call k)) := by
  show Le (argsK env (cXs sz k.args.toList) (call1 f (cD sz d) ⟨c, sz, call, n0⟩ ih env H n T lg)) _
  rw [argsK_eq]
  cases ha : argsOf (evX env sz) k.args.toList with
  | none => exact .no _
  | some l =>
    show Le (Option.rec (motive := fun _ => XD → OpF) callNo callYes (call f l H n) (cD sz d) ⟨c, sz, call, n0⟩ ih env H n T lg) _
    cases hc : call f l H n with
    | none => exact .no _
    | some o =>
      show Le (contO (cD sz d) ⟨c, sz, call, n0⟩ ih env H n T lg o) _
      rw [contO_eq]
      exact long_of (by simp only [evOp, evCl, hk, evCallF, ha, hc])
theorem extT_eq : ∀ (l : List CP) (i : Nat) (K : CV → R), extT l i K = bnd l[i]? fun p => K (.p p)
  | [], i, K => by
    rw [List.getElem?_nil]
    rfl
  | p :: l, 0, K => rfl
  | p :: l, i + 1, K => by
    show extT l i K = _
    rw [extT_eq l i]
    simp
theorem ext_le {x : Operand} {i : Nat} : Le (xOp (.ext (cX sz x) i (cD sz d)) ⟨c, sz, call, n0⟩ ih env H n T lg) (long c sz call n0 ih env H n T lg d (.extract x i)) := by
  show Le (xX (cX sz x) env (ext1 i (contP (cD sz d) ih env H n T lg))) _
  refine xC_le fun v hv => ?_
  cases v with
  | p p => exact .no _
  | tup l =>
    show Le (extT l i (contP (cD sz d) ih env H n T lg)) _
    rw [extT_eq]
    cases hp : l[i]? with
    | none => exact .no _
    | some p =>
      show Le (contP (cD sz d) ih env H n T lg (.p p)) _
      rw [contP_eq (c := c) (call := call) (n0 := n0)]
      exact long_of (by simp only [evOp, evExt, hv, hp])
theorem nt_le {t : Nat} {x : Operand} : Le (xOp (.nt (cX sz x) (cD sz d)) ⟨c, sz, call, n0⟩ ih env H n T lg) (long c sz call n0 ih env H n T lg d (.unOp .not t x)) := by
  show Le (xX (cX sz x) env (nt1 (contP (cD sz d) ih env H n T lg))) _
  refine xC_le fun v hv => boolK_le (fun e => ?_) (fun e => ?_)
  · rw [contP_eq (c := c) (call := call) (n0 := n0)]
    exact long_of (by simp only [evOp, evUn1, hv, e, evUn, lv]; rfl)
  · rw [contP_eq (c := c) (call := call) (n0 := n0)]
    exact long_of (by simp only [evOp, evUn1, hv, e, evUn, lv]; rfl)
theorem cv_le {s t : Nat} {x : Operand} {ts ti : TI} {k : IntKind} (h1 : c.ty s = some ts) (h2 : c.ty t = some ti) (hk : ti.ik = some k) : Le (xOp (.cv k (.convert s t x) (cX sz x) (cD sz d)) ⟨c, sz, call, n0⟩ ih env H n T lg) (long c sz call n0 ih env H n T lg d (.convert s t x)) := by
  show Le (xX (cX sz x) env (cv1 k (contP (cD sz d) ih env H n T lg) (opOld (.convert s t x) (cD sz d) ⟨c, sz, call, n0⟩ ih env H n T lg))) _
  refine xC_le fun v hv => nk_le (fun k' m e => ?_) (.of (opOld_eq _))
  unfold cv2
  rcases b64_ok k m (contP (cD sz d) ih env H n T lg) (opOld (.convert s t x) (cD sz d) ⟨c, sz, call, n0⟩ ih env H n T lg) with h | h
  · rw [h]
    exact .of (opOld_eq _)
  · rw [h, contP_eq (c := c) (call := call) (n0 := n0)]
    refine long_of ?_
    simp only [evOp, evConv, h1, h2, hv, e, hk, lv, kI]
    rfl
theorem nil_le {x : Operand} : Le (xOp (.nil (cX sz x) (cD sz d)) ⟨c, sz, call, n0⟩ ih env H n T lg) (long c sz call n0 ih env H n T lg d (.nilCheck x)) := by
  show Le (xX (cX sz x) env (nil1 (contP (cD sz d) ih env H n T lg))) _
  refine xC_le fun v hv => oneK_le fun a e => ?_
  cases a with
  | ptr b off =>
    show Le (contP (cD sz d) ih env H n T lg (.p (.one (.ptr b off)))) _
    rw [contP_eq (c := c) (call := call) (n0 := n0)]
    exact long_of (by simp only [evOp, evNil, hv, e, pv])
  | fn f l =>
    show Le (contP (cD sz d) ih env H n T lg (.p (.one (.fn f l)))) _
    rw [contP_eq (c := c) (call := call) (n0 := n0)]
    exact long_of (by simp only [evOp, evNil, hv, e, pv])
  | _ => exact .no _
theorem len_le {k : Call} {x : Operand} {t : Nat} {ti : TI} (hk : k.callee = .builtin .len) (ha : k.args.toList = [x]) (hts : k.argTypes.toList = [t]) (ht : c.ty t = some ti) (h3 : Nat.beq ti.kind 3 = true) : Le (xOp (.len (.call k) (cX sz x) (cD sz d)) ⟨c, sz, call, n0⟩ ih env H n T lg) (long c sz call n0 ih env H n T lg d (.call k)) := by
  show Le (xX (cX sz x) env (len1 (contP (cD sz d) ih env H n T lg) (opOld (.call k) (cD sz d) ⟨c, sz, call, n0⟩ ih env H n T lg))) _
  have h3 := Nat.eq_of_beq_eq_true h3
  refine xC_le fun v hv => ?_
  cases v with
  | tup l => exact .of (opOld_eq _)
  | p p =>
    cases p with
    | ag cs => exact .of (opOld_eq _)
    | one a =>
      cases a with
      | sl b off len cap =>
        show Le (contP (cD sz d) ih env H n T lg (.p (.one (.lit (.int .i64 (.ofNat len)))))) _
        rw [contP_eq (c := c) (call := call) (n0 := n0)]
        exact long_of (by simp only [evOp, evCl, hk, evBuiltin, evLen, ha, hts, ht, hv, h3, lv])
      | slu b off len cap =>
        show Le (contP (cD sz d) ih env H n T lg (.p (.one (.lit (.int .i64 (.ofNat len)))))) _
        rw [contP_eq (c := c) (call := call) (n0 := n0)]
        exact long_of (by simp only [evOp, evCl, hk, evBuiltin, evLen, ha, hts, ht, hv, h3, lv])
      | _ => exact .of (opOld_eq _)
theorem xOp_le (op : Op) : Le (xOp (cP c sz op (cD sz d)) ⟨c, sz, call, n0⟩ ih env H n T lg) (long c sz call n0 ih env H n T lg d op) := by
  unfold cP
  split
  · exact mv_le fun v hv => by simp only [evOp, evMove, hv]
  · exact mv_le fun v hv => by simp only [evOp, evMove, hv]
  · exact pick_le
  · rename_i t x
    cases ht : c.ty t with
    | none => exact old_le _
    | some ti =>
      simp only
      cases ha : ti.agg with
      | true =>
        simp only
        cases hs : ti.size with
        | zero => exact old_le _
        | succ m => exact ldA_le ht ha hs
      | false => exact ld1_le ht ha
  · rename_i t x y
    cases ht : c.ty t with
    | none => exact old_le _
    | some ti =>
      simp only
      split
      · rename_i h1 h2
        exact st1_le ht (Nat.eq_of_beq_eq_true h2)
      · exact old_le _
  · rename_i t x f
    cases ht : c.ty t with
    | none => exact old_le _
    | some ti =>
      simp only
      split
      · rename_i o s ag hk hf
        cases s with
        | zero => exact old_le _
        | succ s => exact fa_le ht hk hf
      · exact old_le _
  · rename_i t x i
    cases ht : c.ty t with
    | none => exact old_le _
    | some ti =>
      simp only
      split
      · rename_i te hk he
        exact ia_le ht hk he
      · exact old_le _
  · exact bin_le
  · exact nt_le
  · rename_i s t x
    split
    · rename_i ts ti h1 h2
      cases hk : ti.ik with
      | none => exact old_le _
      | some k => exact cv_le h1 h2 hk
    · exact old_le _
  · exact nil_le
  · exact box_le
  · rename_i k
    split
    · rename_i f hk
      exact call_le hk
    · rename_i x t hk ha hts
      cases ht : c.ty t with
      | none => exact old_le _
      | some ti =>
        simp only
        split
        · rename_i h3
          exact len_le hk ha hts ht h3
        · exact old_le _
    · exact old_le _
  · exact ext_le
  · exact old_le _
end
end Go.Proofs.YtmlpimckfneliaaGreat.Ev
