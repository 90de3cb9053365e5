/- A run reckoned beforehand: every operation is as it is reckoned. No conditions. -/
import Derived.Test.YtmlpimckfneliaaGreatEl
namespace Go.Proofs.YtmlpimckfneliaaGreat.Ev
def dVs (s : Nat → Value) (r : Ren) : List CV → Option (List Value)
  | [] => some []
  | a :: l => match a.d s r, dVs s r l with
    | some v, some vs => some (v :: vs)
    | _, _ => none
/-- a function that has a text -/
def FnKnown (P : Program) (f : Nat) : Prop := ∃ fn, P.funcs[f]? = some fn ∧ (fn.name == "runtime.NumGoroutine") = false ∧ fn.body.isNone = false
/-- a call is as it is reckoned -/
structure CallSim (P : Program) (s : Nat → Value) (f : Nat) (args : List CV) (H : Hp) (n : Nat) (out : Out) : Prop where
  fn : FnKnown P f
  stat : OpStat H n out
  sim : ∀ (r : Ren) (A : List Value) (W : World), dVs s r args = some A → Low out.rd n → Free r n out.nx → Fits s r out.rd W →
    Calls P f A.toArray W fun e W' => ∃ r' V, e = .returned V ∧ Post r n W out.T r' out.nx W' ∧ out.v.d s r' = some V ∧ Fits s r' (out.news ++ out.U) W'
def CallsOk (P : Program) (s : Nat → Value) (call : CallF) : Prop := ∀ f args H n out, call f args H n = some out → Low H n → CallSim P s f args H n out
structure CfgOk (P : Program) (s : Nat → Value) (c : Cfg) : Prop where
  ty : TyAll P c
  sym : SymOk P s c
  eqs : ∀ t ti, c.ty t = some ti → ti.kind = 8 → EqLaw P t ti.zero
section
variable {P : Program} {s : Nat → Value} {o : Oper} {ev : EvF} {H : Hp} {n : Nat} {out : Out} {c : Cfg} {call : CallF}
theorem dVs_mk {r : Ren} {a : CV} {l : List CV} {v : Value} {us : List Value} (h1 : a.d s r = some v) (h2 : dVs s r l = some us) : dVs s r (a :: l) = some (v :: us) := by
  unfold dVs
  rw [h1, h2]
theorem dVs_cons {r : Ren} {a : CV} {l : List CV} {vs : List Value} (h : dVs s r (a :: l) = some vs) : ∃ v us, a.d s r = some v ∧ dVs s r l = some us ∧ vs = v :: us := by
  unfold dVs at h
  split at h
  · rename_i v us h1 h2
    injection h with h
    exact ⟨v, us, h1, h2, h.symm⟩
  · cases h
theorem dVs_app {r : Ren} : ∀ {l m : List CV} {vs us : List Value}, dVs s r l = some vs → dVs s r m = some us → dVs s r (l ++ m) = some (vs ++ us)
  | [], _, _, _, hv, hm => by injection hv with hv; subst hv; exact hm
  | x :: l, m, _, us, hv, hm => by
    obtain ⟨v, ws, h1, h2, rfl⟩ := dVs_cons hv
    exact dVs_mk h1 (dVs_app h2 hm)
theorem dVs_ptrs {r : Ren} : ∀ {ps : List (Nat × Nat)} {vs : List Value}, dPtr r ps = some vs → dVs s r (ptrsOf ps) = some vs
  | [], _, h => h
  | p :: ps, vs, h => by
    unfold dPtr at h
    split at h
    · rename_i x us h1 h2
      injection h with h
      subst h
      exact dVs_mk (by simp [CV.d, CP.d, CA.d, h1]) (dVs_ptrs h2)
    · cases h
theorem argsOf_d {r : Ren} {a : Act} : ∀ {xs : List Operand} {l : List CV}, (∀ x ∈ xs, Rl s r ev a x) → argsOf ev xs = some l → dVs s r l = some (xs.map a.eval)
  | [], l, _, h => by injection h with h; subst h; rfl
  | x :: xs, l, hr, h => by
    unfold argsOf at h
    split at h
    · rename_i v hv
      split at h
      · rename_i l' hl'
        injection h with h
        subst h
        exact dVs_mk (hr x (by simp) _ hv) (argsOf_d (fun y hy => hr y (by simp [hy])) hl')
      · cases h
    · cases h
theorem callFunc_run {f : Nat} (h : FnKnown P f) (A : Array Value) (W : World) : (callFunc f A).run P W = .ok (.enter f A) W := by
  obtain ⟨fn, h1, h2, h3⟩ := h
  have h2' : ¬ fn.name = "runtime.NumGoroutine" := fun e => by simp [e] at h2
  have h3' : ¬ fn.body = none := fun e => by simp [e] at h3
  simp [callFunc, h1, h2', h3']
theorem enter_sim {f : Nat} {args : List CV} (hsim : CallSim P s f args H n out) (hrun : ∀ (r : Ren) (a : Act) (W : World), (∀ x ∈ o.op.operands, Rl s r ev a x) → ∃ A, dVs s r args = some A ∧ (execOp a.eval o).run P W = .ok (.enter f A.toArray) W) : OpSim P s o ev n out ∧ OpStat H n out := by
  refine ⟨?_, hsim.stat⟩
  intro r a W hrel hlow hfree hF K Q hK
  obtain ⟨A, h1, h2⟩ := hrun r a W hrel
  unfold Oper.wp
  rw [h2]
  refine (hsim.sim r A W h1 hlow hfree hF).mono ?_
  rintro e W' ⟨r', V, rfl, hP, hd, hF'⟩
  exact hK r' V W' hP hd hF'
theorem evCl_ok (hcall : CallsOk P s call) (hlow : Low H n) (hc : CfgOk P s c) {k : Call} (ho : o.op = .call k) (h : evCl c call ev k H n = some out) : OpSim P s o ev n out ∧ OpStat H n out := by
  unfold evCl at h
  split at h
  · rename_i b hb
    unfold evBuiltin at h
    split at h
    · exact evLen_ok hc.ty ho hb h
    · exact evCap_ok hc.ty ho hb h
    · exact evApp_ok hc.ty hc.sym.one ho hb h
    · exact evClear_ok hc.ty ho hb h
    · cases h
  · rename_i f hf
    unfold evCallF at h
    split at h
    · rename_i l hl
      have hsim := hcall f l H n out h hlow
      refine enter_sim hsim fun r a W hrel => ?_
      have hx : ∀ x ∈ k.args.toList, x ∈ o.op.operands := by
        intro x hx
        simp [ho, Op.operands, Call.operands]
        exact .inr (by simpa using hx)
      refine ⟨k.args.toList.map a.eval, argsOf_d (fun x hx' => hrel x (hx x hx')) hl, ?_⟩
      have e : (#[] ++ k.args.map a.eval ++ #[] : Array Value) = (k.args.toList.map a.eval).toArray := by
        apply Array.ext'
        simp
      unfold execOp
      rw [ho]
      simp only [resolve, hf, Act.eval, Deferred.ofValue, Sem.run_bind, Sem.run_pure, Result.andThen_ok, invoke]
      rw [callFunc_run hsim.fn]
      congr 2
    · cases h
  · rename_i x hx' hf
    unfold evCallX at h
    split at h
    · rename_i f ps l hev hl
      have hsim := hcall f _ H n out h hlow
      refine enter_sim hsim fun r a W hrel => ?_
      have hx : ∀ x ∈ k.args.toList, x ∈ o.op.operands := by
        intro x hx
        simp [ho, Op.operands, Call.operands]
        exact .inr (by simpa using hx)
      have hxx : x ∈ o.op.operands := by simp [ho, Op.operands, Call.operands, hf]
      have hd := hrel x hxx _ hev
      obtain ⟨vs, hvs, he⟩ := Option.map_eq_some_iff.1 hd
      refine ⟨k.args.toList.map a.eval ++ vs, dVs_app (argsOf_d (fun x hx' => hrel x (hx x hx')) hl) (dVs_ptrs hvs), ?_⟩
      have e : (#[] ++ k.args.map a.eval ++ vs.toArray : Array Value) = (k.args.toList.map a.eval ++ vs).toArray := by
        apply Array.ext'
        simp
      unfold execOp
      rw [ho]
      simp only [resolve, hf, ← he, Deferred.ofValue, Sem.run_bind, Sem.run_pure, Result.andThen_ok, invoke]
      rw [callFunc_run hsim.fn, e]
    · cases h
  · cases h
theorem evOper_ok (hcall : CallsOk P s call) (hlow : Low H n) (hc : CfgOk P s c) (h : evOper c call ev o H n = some out) : OpSim P s o ev n out ∧ OpStat H n out := by
  unfold evOper evOp at h
  split at h
  · rename_i x hop
    exact evMove_ok (x := x) (fun a => by unfold execOp; rw [hop]) (by simp [hop, Op.operands]) h
  · rename_i x hop
    exact evMove_ok (x := x) (fun a => by unfold execOp; rw [hop]) (by simp [hop, Op.operands]) h
  · rename_i x a b hop
    exact evPick_ok hop h
  · rename_i t x hop
    exact evLoad_ok hc.ty hop h
  · rename_i t x y hop
    exact evStore_ok hc.ty hc.sym.one hop h
  · rename_i t hop
    exact evAlloc_ok hc.ty hop h
  · rename_i t x hop
    exact evBox_ok hc.sym.one hop h
  · rename_i t ps hop
    exact evBuild_ok hc.ty hc.sym.one hop h
  · rename_i t len ps hop
    exact evBSlice_ok hc.ty hc.sym.one hop h
  · rename_i t l k hop
    exact evMSlice_ok hc.ty hop h
  · rename_i x hop
    exact evNil_ok hop h
  · rename_i op t x y yt hop
    exact evBin_ok hc.ty hc.sym hc.eqs hop h
  · rename_i op t x hop
    exact evUn_ok hop h
  · rename_i st t x hop
    exact evConv_ok hc.ty hc.sym hop h
  · rename_i f first caps hop
    exact evMkF_ok hop h
  · rename_i t x lo hi mx hop
    exact evSl_ok hc.ty hop h
  · rename_i t x f hop
    exact evFA_ok hc.ty hop h
  · rename_i t x ix hop
    exact evIA_ok hc.ty hop h
  · rename_i t x ix hop
    exact evIx_ok hc.ty hop h
  · rename_i x i hop
    exact evExt_ok hop h
  · rename_i k hop
    exact evCl_ok hcall hlow hc hop h
  · cases h
end
end Go.Proofs.YtmlpimckfneliaaGreat.Ev
