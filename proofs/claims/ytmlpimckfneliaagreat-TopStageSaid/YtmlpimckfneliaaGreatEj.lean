/- A run reckoned beforehand: the single operations, more (slices, lengths). No conditions. -/
import Derived.Test.YtmlpimckfneliaaGreatEi
namespace Go.Proofs.YtmlpimckfneliaaGreat.Ev
section
variable {P : Program} {s : Nat → Value} {o : Oper} {ev : EvF} {H : Hp} {n : Nat} {out : Out} {c : Cfg}
/-- a bound of a slice, as it is reckoned -/
def NumRel (d : Nat) (v : Option Value) (l : Nat) : Prop := (v = none ∧ l = d) ∨ ∃ k, v = some (.int k (Int.ofNat l))
theorem num_rel {d l : Nat} {x : Option Operand} {y : Option CV} {r : Ren} {a : Act} (h : optOf ev x = some y) (hn : numOf d y = some l) (hrel : ∀ z, x = some z → Rl s r ev a z) : NumRel d (x.map a.eval) l ∧ (x.map a.eval).isSome = y.isSome := by
  unfold optOf at h
  split at h
  · injection h with h
    subst h
    injection hn with hn
    exact ⟨.inl ⟨rfl, hn.symm⟩, rfl⟩
  · rename_i z
    split at h
    · rename_i v hv
      injection h with h
      subst h
      unfold numOf at hn
      split at hn
      · rename_i heq
        cases heq
      · rename_i k i heq
        injection heq with heq
        subst heq
        injection hn with hn
        subst hn
        have := lit_of (hrel z rfl _ hv)
        exact ⟨.inr ⟨k, by simp [this]⟩, rfl⟩
      · cases hn
    · cases h
theorem run_bounds {isS : Bool} {len cap l h m : Nat} {low high max : Option Value} (hm : NumRel cap max m) (hh : NumRel len high h) (hl : NumRel 0 low l) (h0 : max.isSome = true → high.isSome = true) (h1 : max.isSome = true → m ≤ cap) (h2 : high.isSome = true → h ≤ m) (h3 : l ≤ h) (W : World) :
    (Instr.sliceBounds isS len cap low high max).run P W = .ok (l, h, m) W := by
  have hb : ∀ (k : IntKind) (i y : Nat) (code : BoundsCode), i ≤ y → (Instr.sliceBound (.int k (i : Int)) y code).run P W = .ok i W := by
    intro k i y code hi
    have : (0 : Int) ≤ (i : Int) ∧ (i : Int) ≤ (y : Int) := by omega
    simp [Instr.sliceBound, asIntOf, this]
  rcases hm with ⟨rfl, rfl⟩ | ⟨km, rfl⟩ <;> rcases hh with ⟨rfl, rfl⟩ | ⟨kh, rfl⟩ <;> rcases hl with ⟨rfl, rfl⟩ | ⟨kl, rfl⟩ <;> simp only [Option.isSome_some, Option.isSome_none, forall_const, Bool.false_eq_true, false_implies, implies_true] at h0 h1 h2 <;>
    simp [Instr.sliceBounds, hb, h1, h2, h3]
theorem sl_slice {t : Nat} {ti te : TI} {d d' : TypeDesc} {i i' : TypeInfo} {z z' : Value} (hT : TyOk P t ti d i z) (hT' : TyOk P ti.elem te d' i' z') (hk : ti.kind = 3) {A : Option Addr} {len cap l h m : Nat} {low high max : Option Value} (W : World) (hb : (Instr.sliceBounds true len cap low high max).run P W = .ok (l, h, m) W) :
    (Instr.sliceAt t (.slice A len cap) low high max).run P W = .ok (.slice (if m = l then A else A.map (·.add (l * te.size))) (h - l) (m - l)) W := by
  have hK := hT.kind
  simp only [KindOk, hk] at hK
  subst hK
  simp [Instr.sliceAt, Instr.slice, run_underlying hT.und, hb, run_sz hT'.info, hT'.size]
theorem evSl_ok (hc : TyAll P c) {t : Nat} {x : Operand} {lo hi mx : Option Operand} (ho : o.op = .slice t x lo hi mx) (h : evSl c ev t x lo hi mx H n = some out) : OpSim P s o ev n out ∧ OpStat H n out := by
  have hx : x ∈ o.op.operands := by simp [ho, Op.operands]
  have hlo : ∀ y, lo = some y → y ∈ o.op.operands := by rintro y rfl; simp [ho, Op.operands]
  have hhi : ∀ y, hi = some y → y ∈ o.op.operands := by rintro y rfl; simp [ho, Op.operands]
  have hmx : ∀ y, mx = some y → y ∈ o.op.operands := by rintro y rfl; simp [ho, Op.operands]
  unfold evSl at h
  split at h
  · rename_i ti a lo' hi' mx' hti hev hl hh hm
    obtain ⟨d, i, z, hT⟩ := hc t ti hti
    split at h
    · rename_i te hte
      obtain ⟨d', i', z', hT'⟩ := hc _ te hte
      have hexec : ∀ ac : Act, execOp ac.eval o = (do pure (.value (← Instr.sliceAt t (ac.eval x) (lo.map ac.eval) (hi.map ac.eval) (mx.map ac.eval)))) := by
        intro ac
        unfold execOp
        rw [ho]
      unfold evSlice at h
      split at h
      · rename_i b off len cap hk
        unfold slA at h
        split at h
        · rename_i m hh' l hnm hnh hnl
          split at h
          · cases h
          · rename_i hcond
            injection h with h
            subst h
            refine ⟨sim_pure fun r ac W hrel => ?_, stat_pure⟩
            obtain ⟨⟨B, cp⟩, hr, he⟩ := Option.map_eq_some_iff.1 (hrel x hx _ hev)
            obtain ⟨r1, i1⟩ := num_rel (s := s) (r := r) (a := ac) hm hnm fun y hy => hrel y (hmx y hy)
            obtain ⟨r2, i2⟩ := num_rel (s := s) (r := r) (a := ac) hh hnh fun y hy => hrel y (hhi y hy)
            obtain ⟨r3, i3⟩ := num_rel (s := s) (r := r) (a := ac) hl hnl fun y hy => hrel y (hlo y hy)
            have hb := run_bounds (P := P) (isS := true) r1 r2 r3 (by rw [i1, i2]; intro q; cases hq : hi'.isSome <;> simp_all) (by omega) (by omega) (by omega) W
            refine ⟨_, ?_, by rw [hexec, ← he, Sem.run_bind, sl_slice hT hT' hk W hb]; rfl⟩
            simp only [CV.d, CP.d, CA.d, pv, hr, Option.map_some, Option.some.injEq]
            split <;> simp [Addr.add_mid]
        · cases h
      · rename_i b off len sub hk
        split at h
        · cases h
        · rename_i k hfk
          split at h
          · unfold slB at h
            split at h
            · rename_i hh' l hnh hnl
              split at h
              · cases h
              · rename_i hcond
                injection h with h
                subst h
                have hsl : k.sl = some te.size := Decidable.of_not_not fun q => hcond (by simp [q])
                refine ⟨sim_read fun r ac W hrel hF => ?_, stat_read (findH_mem hfk)⟩
                obtain ⟨⟨B, cp⟩, hr, he⟩ := Option.map_eq_some_iff.1 (hrel x hx _ hev)
                obtain ⟨r2, i2⟩ := num_rel (s := s) (r := r) (a := ac) hh hnh fun y hy => hrel y (hhi y hy)
                obtain ⟨r3, i3⟩ := num_rel (s := s) (r := r) (a := ac) hl hnl fun y hy => hrel y (hlo y hy)
                have hmx0 : mx = none := by
                  cases mx with
                  | none => rfl
                  | some y =>
                    simp only [optOf] at hm
                    split at hm <;> cases hm
                subst hmx0
                obtain ⟨vs, cur, h1, h2, h3⟩ := hF.fit (b, k) (List.mem_singleton.2 rfl) B cp hr
                have hlen := dL_len h1
                have hroom := h3.2
                simp only [hsl] at hroom
                have hcap : len + sub ≤ cp := by
                  have h4 : ¬ (k.cs.length < (len + sub) * te.size) := fun q => hcond (by simp [q])
                  have h5 : te.size ≠ 0 := fun q => hcond (by simp [q])
                  simp only at hlen
                  have h6 : (len + sub) * te.size ≤ cp * te.size := by omega
                  exact Nat.le_of_mul_le_mul_right h6 (by omega)
                have hb := run_bounds (P := P) (isS := true) (cap := cp - sub) (m := cp - sub) (max := none) (.inl ⟨rfl, rfl⟩) r2 r3 (by simp) (by simp) (by omega) (by omega) W
                refine ⟨_, ?_, by rw [hexec, ← he, Sem.run_bind]; simp only [Option.map_none]; rw [sl_slice hT hT' hk W hb]; rfl⟩
                have h7 : ¬ (l ≠ 0 ∧ len ≤ l) := fun q => hcond (by simp [q])
                simp only [CV.d, CP.d, CA.d, pv, hr, Option.map_some, Option.some.injEq]
                by_cases hl0 : l = 0
                · subst hl0
                  simp
                  intro _
                  rfl
                · have hne : ¬ (cp - sub = l) := by omega
                  simp [hne, Addr.add_mid, Nat.sub_sub]
            · cases h
          · unfold slC at h
            split at h
            · rename_i m hh' l hnm hnh hnl
              split at h
              · cases h
              · rename_i hcond
                injection h with h
                subst h
                have hsl : k.sl = some te.size := Decidable.of_not_not fun q => hcond (by simp [q])
                refine ⟨sim_read fun r ac W hrel hF => ?_, stat_read (findH_mem hfk)⟩
                obtain ⟨⟨B, cp⟩, hr, he⟩ := Option.map_eq_some_iff.1 (hrel x hx _ hev)
                obtain ⟨r1, i1⟩ := num_rel (s := s) (r := r) (a := ac) hm hnm fun y hy => hrel y (hmx y hy)
                obtain ⟨r2, i2⟩ := num_rel (s := s) (r := r) (a := ac) hh hnh fun y hy => hrel y (hhi y hy)
                obtain ⟨r3, i3⟩ := num_rel (s := s) (r := r) (a := ac) hl hnl fun y hy => hrel y (hlo y hy)
                obtain ⟨vs, cur, h1, h2, h3⟩ := hF.fit (b, k) (List.mem_singleton.2 rfl) B cp hr
                have hlen := dL_len h1
                have hroom := h3.2
                simp only [hsl] at hroom
                have hcap : len + sub ≤ cp := by
                  have h4 : ¬ (k.cs.length < (len + sub) * te.size) := fun q => hcond (by simp [q])
                  have h5 : te.size ≠ 0 := fun q => hcond (by simp [q])
                  simp only at hlen
                  have h6 : (len + sub) * te.size ≤ cp * te.size := by omega
                  exact Nat.le_of_mul_le_mul_right h6 (by omega)
                have r1' : NumRel (cp - sub) (mx.map ac.eval) m := by
                  rcases r1 with ⟨q1, _⟩ | q
                  · rw [q1] at i1
                    simp at i1
                  · exact .inr q
                have hb := run_bounds (P := P) (isS := true) (cap := cp - sub) r1' r2 r3 (by rw [i2]; intro _; cases hq : hi'.isSome <;> simp_all) (by omega) (by omega) (by omega) W
                refine ⟨_, ?_, by rw [hexec, ← he, Sem.run_bind, sl_slice hT hT' hk W hb]; rfl⟩
                simp only [CV.d, CP.d, CA.d, pv, hr, Option.map_some, Option.some.injEq]
                split <;> simp [Addr.add_mid]
            · cases h
      · rename_i hk
        split at h
        · rename_i hnh hnl
          injection h with h
          subst h
          refine ⟨sim_pure fun r ac W hrel => ?_, stat_pure⟩
          have he := lit_of (hrel x hx _ hev)
          obtain ⟨r2, i2⟩ := num_rel (s := s) (r := r) (a := ac) hh hnh fun y hy => hrel y (hhi y hy)
          obtain ⟨r3, i3⟩ := num_rel (s := s) (r := r) (a := ac) hl hnl fun y hy => hrel y (hlo y hy)
          have hmx0 : mx = none := by
            cases mx with
            | none => rfl
            | some y =>
              simp only [optOf] at hm
              split at hm <;> cases hm
          subst hmx0
          have hb := run_bounds (P := P) (isS := true) (len := 0) (cap := 0) (m := 0) (max := none) (.inl ⟨rfl, rfl⟩) r2 r3 (by simp) (by simp) (by omega) (by omega) W
          refine ⟨_, lv_d _, by rw [hexec, he, Sem.run_bind]; simp only [Option.map_none]; rw [sl_slice hT hT' hk W hb]; rfl⟩
        · cases h
      · cases h
    · cases h
  · cases h
end
end Go.Proofs.YtmlpimckfneliaaGreat.Ev
