/- A run reckoned beforehand: calls whose outcome is known beforehand. No conditions. -/
import Derived.Test.YtmlpimckfneliaaGreatFi
import Derived.Test.YtmlpimckfneliaaGreatFm
namespace Go.Proofs.YtmlpimckfneliaaGreat.Ev
def One (s : Nat → Value) : Prop := ∀ i, (s i).oneCell' = true
/-- right whatever the unknown cells hold -/
def Sound (call : CallF) : Prop := ∀ s, One s → CallsOk Tryz.prog s call
theorem sym0 {s : Nat → Value} (h : One s) : SymOk Tryz.prog s cfg0 := ⟨h, (fun _ _ _ _ h => by cases h), (fun _ _ _ _ h => by cases h)⟩
theorem sound_run {orc : CallF} (h : Sound orc) (d : Nat) : Sound (xCall cfg0 orc hiF d) := fun s hs =>
  xCall_ok mixed0 (cfgOk rfl (sym0 hs)) (fnsOk rfl) (h s hs) d
theorem sound_none : Sound (fun _ _ _ _ => none) := fun _ _ _ _ _ _ _ h _ => by cases h
/-- one or the other -/
def orElse (a b : CallF) : CallF := fun f args H n => match a f args H n with
  | some o => some o
  | none => b f args H n
theorem sound_or {a b : CallF} (ha : Sound a) (hb : Sound b) : Sound (orElse a b) := fun s hs f args H n out h hl => by
  unfold orElse at h
  split at h
  · rename_i o ho
    injection h with h
    subst h
    exact ha s hs f args H n o ho hl
  · exact hb s hs f args H n out h hl
/-- one function alone -/
noncomputable def only (f0 : Nat) (a : List CV → Hp → Nat → R) : CallF := fun f args H n => Bool.rec none (a args H n) (Nat.beq f f0)
theorem sound_only {f0 : Nat} {a : List CV → Hp → Nat → R} (h : ∀ s, One s → ∀ args H n out, a args H n = some out → Low H n → CallSim Tryz.prog s f0 args H n out) : Sound (only f0 a) := fun s hs f args H n out ho hl => by
  unfold only at ho
  cases hf : Nat.beq f f0 with
  | false => rw [hf] at ho; cases ho
  | true =>
    rw [hf] at ho
    have := Nat.eq_of_beq_eq_true hf
    subst this
    exact h s hs args H n out ho hl
/-- is a row such a number of cells that may lie in memory? -/
noncomputable def rowS (a : CA) (_ : List CA) (ih : Nat → Bool) (len : Nat) : Bool := Nat.rec (motive := fun _ => CA → (Nat → Bool) → Bool) (fun _ _ => false) (fun m _ a ih => Bool.rec false (ih m) (okA a)) len a ih
noncomputable def rowOk (cs : List CA) (len : Nat) : Bool := List.rec (motive := fun _ => Nat → Bool) (fun len => Nat.beq len 0) rowS cs len
theorem rowOk_ok : ∀ {cs : List CA} {len : Nat}, rowOk cs len = true → cs.length = len ∧ litsOk cs = true
  | [], len, h => ⟨(Nat.eq_of_beq_eq_true h).symm, rfl⟩
  | a :: cs, 0, h => by cases h
  | a :: cs, m + 1, h => by
    have h : Bool.rec (motive := fun _ => Bool) false (rowOk cs m) (okA a) = true := h
    cases ha : okA a with
    | false => rw [ha] at h; cases h
    | true =>
      rw [ha] at h
      obtain ⟨h1, h2⟩ := rowOk_ok h
      refine ⟨by simp [h1], ?_⟩
      rw [okA_eq] at ha
      cases a with
      | lit v =>
        simp only [litsOk, Bool.and_eq_true] at ha ⊢
        exact ⟨ha.1, h2⟩
      | _ => exact h2
noncomputable def cpD (t : Nat) (cs : List CA) (sl : Option Nat) (t0 : Nat) (u : Bool) (b len n : Nat) : R := Bool.rec none (some (cpNow t0 b n len ⟨t, cs, sl⟩ cs)) (Nat.beq t t0 && (eqSl sl (cpSl u) && rowOk cs len))
noncomputable def cpC (t0 : Nat) (u : Bool) (b len n : Nat) (k : CB) : R := CB.rec (motive := fun _ => Nat → Bool → Nat → Nat → Nat → R) cpD k t0 u b len n
noncomputable def cpB (t0 : Nat) (u : Bool) (H : Hp) (n b len : Nat) : R := findK (cpC t0 u b len n) b H
noncomputable def cpA1 (lens : Nat → Bool) (t0 : Nat) (H : Hp) (n : Nat) (b off len cap : Nat) : R := Bool.rec none (cpB t0 false H n b len) (Nat.beq off 0 && (Nat.beq cap len && lens len))
noncomputable def cpA2 (lens : Nat → Bool) (t0 : Nat) (H : Hp) (n : Nat) (b off len sub : Nat) : R := Bool.rec none (cpB t0 true H n b len) (Nat.beq off 0 && (Nat.beq sub 0 && lens len))
noncomputable def cpA (lens : Nat → Bool) (t0 : Nat) (args : List CV) (H : Hp) (n : Nat) : R := match args with
  | [.p (.one (.sl b off len cap))] => cpA1 lens t0 H n b off len cap
  | [.p (.one (.slu b off len sub))] => cpA2 lens t0 H n b off len sub
  | _ => none
theorem cpB_ok {s : Nat → Value} {call : CallF} {f t0 : Nat} {u : Bool} {H : Hp} {n b len : Nat} {out : Out} (hs : One s) (hcall : Sound call) (h0 : 0 < len) (hok : CpOk call f t0 u len) (hl : Low H n) (h : cpB t0 u H n b len = some out) : CallSim Tryz.prog s f [.p (.one (cpArgN u b len))] H n out := by
  unfold cpB at h
  rw [findK_eq] at h
  cases hk : findH H b with
  | none => rw [hk] at h; cases h
  | some k =>
    rw [hk] at h
    obtain ⟨t, cs, sl⟩ := k
    have h : Bool.rec (motive := fun _ => R) none (some (cpNow t0 b n len ⟨t, cs, sl⟩ cs)) (Nat.beq t t0 && (eqSl sl (cpSl u) && rowOk cs len)) = some out := h
    cases hc : (Nat.beq t t0 && (eqSl sl (cpSl u) && rowOk cs len)) with
    | false => rw [hc] at h; cases h
    | true =>
      rw [hc] at h
      injection h with h
      subst h
      simp only [Bool.and_eq_true] at hc
      obtain ⟨h1, h2, h3⟩ := hc
      obtain ⟨h4, h5⟩ := rowOk_ok h3
      have hm := findH_mem hk
      exact cp_sim hs hcall len h0 hok hm (hl _ hm) (Nat.eq_of_beq_eq_true h1) (eqSl_ok h2) h4 h5
theorem cpA_ok {call : CallF} {f t0 : Nat} {lens : Nat → Bool} (hcall : Sound call) (hok : ∀ len, lens len = true → 0 < len ∧ ∀ u, CpOk call f t0 u len) : ∀ s, One s → ∀ args H n out, cpA lens t0 args H n = some out → Low H n → CallSim Tryz.prog s f args H n out := by
  intro s hs args H n out h hl
  unfold cpA at h
  split at h
  · rename_i b off len cap
    unfold cpA1 at h
    cases hc : (Nat.beq off 0 && (Nat.beq cap len && lens len)) with
    | false => rw [hc] at h; cases h
    | true =>
      rw [hc] at h
      simp only [Bool.and_eq_true] at hc
      obtain ⟨h1, h2, h3⟩ := hc
      obtain ⟨h4, h5⟩ := hok len h3
      have h1 := Nat.eq_of_beq_eq_true h1
      have h2 := Nat.eq_of_beq_eq_true h2
      subst h1
      subst h2
      exact cpB_ok hs hcall h4 (h5 false) hl h
  · rename_i b off len sub
    unfold cpA2 at h
    cases hc : (Nat.beq off 0 && (Nat.beq sub 0 && lens len)) with
    | false => rw [hc] at h; cases h
    | true =>
      rw [hc] at h
      simp only [Bool.and_eq_true] at hc
      obtain ⟨h1, h2, h3⟩ := hc
      obtain ⟨h4, h5⟩ := hok len h3
      have h1 := Nat.eq_of_beq_eq_true h1
      have h2 := Nat.eq_of_beq_eq_true h2
      subst h1
      subst h2
      exact cpB_ok hs hcall h4 (h5 true) hl h
  · cases h
/-- a call of numbers and truths, once reckoned: its value serves wherever it is made -/
theorem value_sim {P : Program} {s : Nat → Value} {f : Nat} {args : List CV} {o : Out} {H : Hp} {n : Nat} (hn : namesVs args = []) (hv : namesV o.v = []) (h : CallSim P s f args [] 0 o) : CallSim P s f args H n ⟨o.v, [], n, [], [], []⟩ := by
  obtain ⟨v, news, nx, T, U, rd⟩ := o
  have hrd : ∀ p ∈ rd, False := fun p hp => by have := h.stat.rd p hp; cases this
  have hT : ∀ b ∈ T, False := fun b hb => by obtain ⟨k, hk⟩ := h.stat.T b hb; exact hrd _ hk
  refine ⟨h.fn, ⟨by simp, Nat.le_refl _, by simp, by simp, by simp⟩, fun r A W hA _ _ _ => (h.sim (fun _ => none) A W (by rw [← hA]; exact dVs_nameless _ _ hn) (fun p hp => (hrd p hp).elim) (fun _ _ _ => rfl) ⟨fun p hp => (hrd p hp).elim, fun p hp => (hrd p hp).elim⟩).mono ?_⟩
  rintro e W' ⟨r', V, rfl, hP, hd, _⟩
  refine ⟨r, V, rfl, ⟨Nat.le_refl _, fun _ _ => rfl, hP.os, hP.tape, hP.output, hP.size, fun B hB _ => hP.same B hB (fun b hb => (hT b hb).elim), fun b B c h1 h2 _ => absurd (Nat.lt_of_le_of_lt h1 h2) (Nat.lt_irrefl _)⟩, ?_, fits_nil⟩
  rw [← hd]
  exact dV_nameless _ _ hv
/-- a table of such calls: by a number that is made of the arguments -/
def isVal (o : Option Out) (v : CV) : Bool := match o with
  | some o => eqCV o.v v
  | none => false
def entB (call : CallF) (f : Nat) (e : List CV × CV) : Bool := isVal (call f e.1 [] 0) e.2 && (match namesVs e.1, namesV e.2 with
  | [], [] => true
  | _, _ => false)
def tab (key : List CV → Option Nat) (T : Bt (List CV × CV)) (args : List CV) (n : Nat) : R := match key args with
  | none => none
  | some k => match T.get k with
    | none => none
    | some (a, v) => match eqList eqCV a args with
      | true => some ⟨v, [], n, [], [], []⟩
      | false => none
theorem tab_ok {call : CallF} {f : Nat} {key : List CV → Option Nat} {T : Bt (List CV × CV)} (hcall : Sound call) (hT : T.All fun _ e => entB call f e = true) : ∀ s, One s → ∀ args (H : Hp) n out, tab key T args n = some out → Low H n → CallSim Tryz.prog s f args H n out := by
  intro s hs args H n out h _
  unfold tab at h
  split at h
  · cases h
  · rename_i k hk
    split at h
    · cases h
    · rename_i a v he
      split at h
      · rename_i ha
        injection h with h
        subst h
        have ha := eqList_ok eqCV_ok ha
        subst ha
        have h1 := Bt.get_All hT he
        unfold entB at h1
        rw [Bool.and_eq_true] at h1
        obtain ⟨h2, h3⟩ := h1
        unfold isVal at h2
        split at h2
        · rename_i o ho
          have h2 := eqCV_ok h2
          split at h3
          · rename_i q1 q2
            have := hcall s hs f a [] 0 o ho (fun p hp => by cases hp)
            have h4 := value_sim (H := H) (n := n) q1 (by rw [h2]; exact q2) this
            rw [h2] at h4
            exact h4
          · cases h3
        · cases h2
      · cases h
end Go.Proofs.YtmlpimckfneliaaGreat.Ev
