/- A run reckoned beforehand: the single operations, more (comparisons, places, parts). No conditions. -/
import Derived.Test.YtmlpimckfneliaaGreatEh
namespace Go.Proofs.YtmlpimckfneliaaGreat.Ev
section
variable {P : Program} {s : Nat → Value} {o : Oper} {ev : EvF} {H : Hp} {n : Nat} {out : Out} {c : Cfg}
theorem eqVs_of {r : Ren} : ∀ {a b : List CA} {q : Bool} {xs ys : List Value}, eqCs a b = some q → dL s r a = some xs → dL s r b = some ys → eqVs xs ys = some q
  | [], [], q, xs, ys, h, h1, h2 => by
    injection h1 with h1
    injection h2 with h2
    subst h1
    subst h2
    exact h
  | x :: a, y :: b, q, xs, ys, h, h1, h2 => by
    obtain ⟨v, us, e1, e2, rfl⟩ := dL_cons h1
    obtain ⟨w, ws, e3, e4, rfl⟩ := dL_cons h2
    unfold eqCs at h
    split at h
    · rename_i heq _
      cases heq
    · rename_i k i l k' j m heq1 heq2
      injection heq1 with q1 q2
      injection heq2 with q3 q4
      subst q1
      subst q2
      subst q3
      subst q4
      simp only [CA.d, Option.some.injEq] at e1 e3
      subst e1
      subst e3
      unfold eqVs
      split at h
      · cases h
      · rename_i hk
        rw [if_neg hk]
        split at h
        · rename_i r' hr'
          rw [eqVs_of hr' e2 e4]
          exact h
        · cases h
    · rename_i i l j m heq1 heq2
      injection heq1 with q1 q2
      injection heq2 with q3 q4
      subst q1
      subst q2
      subst q3
      subst q4
      simp only [CA.d, Option.some.injEq] at e1 e3
      subst e1
      subst e3
      unfold eqVs
      split at h
      · rename_i r' hr'
        rw [eqVs_of hr' e2 e4]
        exact h
      · cases h
    · cases h
  | [], _ :: _, _, _, _, h, _, _ => by simp [eqCs] at h
  | _ :: _, [], _, _, _, h, _, _ => by simp [eqCs] at h
theorem likeV_of {r : Ren} : ∀ {a : List CA} {z xs : List Value}, likeZ a z = true → dL s r a = some xs → likeV xs z = true
  | [], [], xs, _, h1 => by
    injection h1 with h1
    subst h1
    rfl
  | x :: a, [], _, h, _ => by simp [likeZ] at h
  | [], u :: z, _, h, _ => by simp [likeZ] at h
  | x :: a, u :: z, xs, h, h1 => by
    obtain ⟨v, us, e1, e2, rfl⟩ := dL_cons h1
    unfold likeZ at h
    split at h
    · rename_i heq _
      cases heq
    · rename_i heq1 heq2
      injection heq1 with q1 q2
      injection heq2 with q3 q4
      subst q1
      subst q2
      subst q3
      subst q4
      simp only [CA.d, Option.some.injEq] at e1
      subst e1
      have q := likeV_of h e2
      exact q
    · rename_i heq1 heq2
      injection heq1 with q1 q2
      injection heq2 with q3 q4
      subst q1
      subst q2
      subst q3
      subst q4
      simp only [CA.d, Option.some.injEq] at e1
      subst e1
      have q := likeV_of h e2
      exact q
    · cases h
theorem evBin_ok (hc : TyAll P c) (hS : SymOk P s c) (hE : ∀ t ti, c.ty t = some ti → ti.kind = 8 → EqLaw P t ti.zero) {op : BinOp} {t yt : TypeId} {x y : Operand} (ho : o.op = .binOp op t x y yt) (h : evBin1 c ev op t x y n = some out) : OpSim P s o ev n out ∧ OpStat H n out := by
  have hx : x ∈ o.op.operands := by simp [ho, Op.operands]
  have hy : y ∈ o.op.operands := by simp [ho, Op.operands]
  unfold evBin1 at h
  split at h
  · rename_i a b hva hvb
    split at h
    · rename_i v hv
      injection h with h
      subst h
      refine ⟨sim_pure fun r ac W hrel => ?_, stat_pure⟩
      have hA := hrel x hx _ hva
      have hB := hrel y hy _ hvb
      suffices hh : ∃ V, v.d s r = some V ∧ (do eqGuard op t x y (ac.eval x) (ac.eval y); binOp op t (ac.eval x) (ac.eval y) : Sem Value).run P W = .ok V W by
        obtain ⟨V, h1, h2⟩ := hh
        refine ⟨V, h1, ?_⟩
        have : execOp ac.eval o = (do pure (.value (← (do eqGuard op t x y (ac.eval x) (ac.eval y); binOp op t (ac.eval x) (ac.eval y) : Sem Value)))) := by
          unfold execOp
          rw [ho]
        rw [this, Sem.run_bind, h2]
        rfl
      unfold evBin at hv
      split at hv
      · split at hv
        · rename_i u hu
          injection hv with hv
          subst hv
          rw [lit_of hA, lit_of hB]
          exact ⟨u, rfl, ints_run hu t x y W⟩
        · cases hv
      · rename_i a b _
        split at hv
        · rename_i u hu
          injection hv with hv
          subst hv
          obtain ⟨q, hq, hop⟩ := eqOf_some hu
          exact ⟨u, rfl, eqA_run hc hq hA hB hop rfl W⟩
        · split at hv
          · rename_i a' ha'
            injection hv with hv
            subst hv
            obtain ⟨V, h1, h2⟩ := hS.bin op a b a' ha' r _ _ hA hB
            exact ⟨V, h1, h2 t x y W⟩
          · cases hv
      · rename_i a b
        split at hv
        · rename_i u hu
          injection hv with hv
          subst hv
          obtain ⟨q, hq, hop⟩ := eqOf_some hu
          unfold eqAg at hq
          split at hq
          · rename_i ti hti
            split at hq
            · rename_i hk
              split at hq
              · rename_i hl
                obtain ⟨hg, hE'⟩ := hE t ti hti hk
                obtain ⟨xs, h1, h1'⟩ := Option.map_eq_some_iff.1 hA
                obtain ⟨ys, h2, h2'⟩ := Option.map_eq_some_iff.1 hB
                have he := hE' xs ys q (eqVs_of hq h1 h2) (likeV_of hl h1)
                rw [← h1', ← h2']
                refine ⟨u, rfl, ?_⟩
                rw [Sem.run_bind, run_eqGuard_agg _ _ _ _ _ _ _ hg, Result.andThen_ok]
                rcases hop with ⟨rfl, rfl⟩ | ⟨rfl, rfl⟩
                · rw [run_eql_struct, he, Result.andThen_ok]
                · rw [run_neq_struct, he, Result.andThen_ok]
              · cases hq
            · cases hq
          · cases hq
        · cases hv
      · cases hv
    · cases h
  · cases h
theorem evConv_ok (hc : TyAll P c) (hS : SymOk P s c) {st t : TypeId} {x : Operand} (ho : o.op = .convert st t x) (h : evConv c ev st t x n = some out) : OpSim P s o ev n out ∧ OpStat H n out := by
  have hx : x ∈ o.op.operands := by simp [ho, Op.operands]
  unfold evConv at h
  split at h
  · rename_i ts ti k0 i0 hts hti hev
    obtain ⟨d0, i0', z0, hT0⟩ := hc st ts hts
    obtain ⟨d, i, z, hT⟩ := hc t ti hti
    split at h
    · rename_i k hk
      injection h with h
      subst h
      refine ⟨sim_pure fun r a W hrel => ?_, stat_pure⟩
      have he := lit_of (hrel x hx _ hev)
      have hd := hT.ik k hk
      subst hd
      refine ⟨_, lv_d _, ?_⟩
      have : (convert st t (.int k0 i0)).run P W = .ok (.int k (k.wrap i0)) W := by
        simp only [convert, Sem.run_bind, run_underlying hT0.und, run_underlying hT.und, Result.andThen_ok, Conv.intToInt, Sem.run_pure]
      simp [execOp, ho, he, this]
    · cases h
  · rename_i t1 t2 a hno hts hti hev
    split at h
    · rename_i v hv
      injection h with h
      subst h
      refine ⟨sim_pure fun r ac W hrel => ?_, stat_pure⟩
      obtain ⟨V, h1, h2⟩ := hS.conv st t a v hv r _ (hrel x hx _ hev)
      exact ⟨V, h1, by simp [execOp, ho, h2]⟩
    · cases h
  · cases h
theorem run_fieldAt (hc : TyAll P c) {t f off sz : Nat} {ag : Bool} {ti : TI} (hti : c.ty t = some ti) (hk : ti.kind = 1 ∨ ti.kind = 8) (hf : ti.fields[f]? = some (off, sz, ag)) (h0 : sz ≠ 0) (B o' : Nat) (W : World) :
    (Instr.fieldAt t (.pointer (some ⟨B, o', none⟩)) f).run P W = .ok (.pointer (some ⟨B, o' + off, none⟩)) W := by
  obtain ⟨d, i, z, hT⟩ := hc t ti hti
  have hK : ∃ fs, d = .struct fs ∧ FieldsOk P fs ti.fields := by
    have := hT.kind
    rcases hk with hk | hk <;> simpa only [KindOk, hk] using this
  obtain ⟨fs, rfl, hfs⟩ := hK
  obtain ⟨g, i', d', h1, h2, h3, h4, _, _⟩ := hfs.2 f off sz ag hf
  have hsz : i'.size ≠ 0 := by rw [h4]; exact h0
  simp [Instr.fieldAt, run_underlying hT.und, h1, Instr.sureAddr, fieldPlace, run_sz h3, hsz, h2, Addr.add_mid]
theorem evFA_ok (hc : TyAll P c) {t f : Nat} {x : Operand} (ho : o.op = .fieldAddr t x f) (h : evFA c ev t x f n = some out) : OpSim P s o ev n out ∧ OpStat H n out := by
  have hx : x ∈ o.op.operands := by simp [ho, Op.operands]
  unfold evFA at h
  split at h
  · rename_i ti b off hti hev
    split at h
    · rename_i o' sz ag hk hf
      split at h
      · cases h
      · rename_i h0
        injection h with h
        subst h
        refine ⟨sim_pure fun r a W hrel => ?_, stat_pure⟩
        obtain ⟨B, cap, hr, he⟩ := ptr_of (hrel x hx _ hev)
        exact ⟨.pointer (some ⟨B, off + o', none⟩), by simp [CV.d, CP.d, CA.d, pv, hr], by simp [execOp, ho, he, run_fieldAt hc hti (.inl hk) hf h0]⟩
    · rename_i o' sz ag hk hf
      split at h
      · cases h
      · rename_i h0
        injection h with h
        subst h
        refine ⟨sim_pure fun r a W hrel => ?_, stat_pure⟩
        obtain ⟨B, cap, hr, he⟩ := ptr_of (hrel x hx _ hev)
        exact ⟨.pointer (some ⟨B, off + o', none⟩), by simp [CV.d, CP.d, CA.d, pv, hr], by simp [execOp, ho, he, run_fieldAt hc hti (.inr hk) hf h0]⟩
    · cases h
  · cases h
theorem evIA_ok (hc : TyAll P c) {t : Nat} {x ix : Operand} (ho : o.op = .indexAddr t x ix) (h : evIA c ev t x ix n = some out) : OpSim P s o ev n out ∧ OpStat H n out := by
  have hx : x ∈ o.op.operands := by simp [ho, Op.operands]
  have hy : ix ∈ o.op.operands := by simp [ho, Op.operands]
  unfold evIA at h
  split at h
  · rename_i ti a k j hti heva hevi
    obtain ⟨d, i, z, hT⟩ := hc t ti hti
    split at h
    · rename_i te b off len cap hte hk
      obtain ⟨d', i', z', hT'⟩ := hc _ te hte
      have hK := hT.kind
      simp only [KindOk, hk] at hK
      unfold idxP at h
      split at h
      · rename_i hlt
        injection h with h
        subst h
        have hlt : j < len := by simpa using hlt
        refine ⟨sim_pure fun r a W hrel => ?_, stat_pure⟩
        have he2 := lit_of (hrel ix hy _ hevi)
        obtain ⟨⟨B, cp⟩, hr, he⟩ := Option.map_eq_some_iff.1 (hrel x hx _ heva)
        refine ⟨.pointer (some ⟨B, off + j * te.size, none⟩), by simp [CV.d, CP.d, CA.d, pv, hr], ?_⟩
        have h1 : (0 : Int) ≤ (j : Int) := by omega
        simp [execOp, ho, ← he, he2, Instr.indexAt, asIntOf, run_underlying hT.und, hK, h1, hlt, run_sz hT'.info, hT'.size, Addr.add_mid]
      · cases h
    · rename_i te b off len sub hte hk
      obtain ⟨d', i', z', hT'⟩ := hc _ te hte
      have hK := hT.kind
      simp only [KindOk, hk] at hK
      unfold idxP at h
      split at h
      · rename_i hlt
        injection h with h
        subst h
        have hlt : j < len := by simpa using hlt
        refine ⟨sim_pure fun r a W hrel => ?_, stat_pure⟩
        have he2 := lit_of (hrel ix hy _ hevi)
        obtain ⟨⟨B, cp⟩, hr, he⟩ := Option.map_eq_some_iff.1 (hrel x hx _ heva)
        refine ⟨.pointer (some ⟨B, off + j * te.size, none⟩), by simp [CV.d, CP.d, CA.d, pv, hr], ?_⟩
        have h1 : (0 : Int) ≤ (j : Int) := by omega
        simp [execOp, ho, ← he, he2, Instr.indexAt, asIntOf, run_underlying hT.und, hK, h1, hlt, run_sz hT'.info, hT'.size, Addr.add_mid]
      · cases h
    · rename_i te b off hte hk
      obtain ⟨d', i', z', hT'⟩ := hc _ te hte
      have hK := hT.kind
      simp only [KindOk, hk] at hK
      unfold idxP at h
      split at h
      · rename_i hlt
        injection h with h
        subst h
        have hlt : j < ti.alen := by simpa using hlt
        refine ⟨sim_pure fun r a W hrel => ?_, stat_pure⟩
        have he2 := lit_of (hrel ix hy _ hevi)
        obtain ⟨⟨B, cp⟩, hr, he⟩ := Option.map_eq_some_iff.1 (hrel x hx _ heva)
        refine ⟨.pointer (some ⟨B, off + j * te.size, none⟩), by simp [CV.d, CP.d, CA.d, pv, hr], ?_⟩
        have h1 : (0 : Int) ≤ (j : Int) := by omega
        simp [execOp, ho, ← he, he2, Instr.indexAt, Instr.sureAddr, asIntOf, run_underlying hT.und, hK, h1, hlt, run_sz hT'.info, hT'.size, Addr.add_mid]
      · cases h
    · cases h
  · cases h
theorem evIx_ok (hc : TyAll P c) {t : Nat} {x ix : Operand} (ho : o.op = .index t x ix) (h : evIx c ev t x ix n = some out) : OpSim P s o ev n out ∧ OpStat H n out := by
  have hx : x ∈ o.op.operands := by simp [ho, Op.operands]
  have hy : ix ∈ o.op.operands := by simp [ho, Op.operands]
  unfold evIx at h
  split at h
  · rename_i ti cs k j hti heva hevi
    obtain ⟨d, i, z, hT⟩ := hc t ti hti
    split at h
    · cases h
    · rename_i te hte
      obtain ⟨d', i', z', hT'⟩ := hc _ te hte
      split at h
      · rename_i a hk hag hlt ha
        injection h with h
        subst h
        have hK := hT.kind
        simp only [KindOk, hk] at hK
        have hlt : j < ti.alen := by simpa using hlt
        refine ⟨sim_pure fun r ac W hrel => ?_, stat_pure⟩
        have he2 := lit_of (hrel ix hy _ hevi)
        obtain ⟨vs, hd, he⟩ := Option.map_eq_some_iff.1 (hrel x hx _ heva)
        obtain ⟨V, h1, h2⟩ := dL_get hd ha
        have h1' : vs[j * te.size]? = some V := h1
        refine ⟨V, h2, ?_⟩
        have h0 : (0 : Int) ≤ (j : Int) := by omega
        simp [execOp, ho, ← he, he2, Instr.index, asIntOf, run_underlying hT.und, hK, h0, hlt, run_sz hT'.info, hT'.size, part, run_isAgg hT'.und, hT'.row, hag, h1']
      · cases h
  · cases h
theorem dPs_get {r : Ren} : ∀ {l : List CP} {vs : List Value} {i : Nat} {a : CP}, dPs s r l = some vs → l[i]? = some a → ∃ v, vs[i]? = some v ∧ a.d s r = some v
  | [], _, i, _, _, ha => by simp at ha
  | x :: l, _, i, a, hv, ha => by
    obtain ⟨v, us, h1, h2, rfl⟩ := dPs_cons hv
    cases i with
    | zero =>
      simp only [List.getElem?_cons_zero, Option.some.injEq] at ha
      subst ha
      exact ⟨v, rfl, h1⟩
    | succ i =>
      simp only [List.getElem?_cons_succ] at ha ⊢
      exact dPs_get h2 ha
theorem evExt_ok {x : Operand} {j : Nat} (ho : o.op = .extract x j) (h : evExt ev x j n = some out) : OpSim P s o ev n out ∧ OpStat H n out := by
  have hx : x ∈ o.op.operands := by simp [ho, Op.operands]
  unfold evExt at h
  split at h
  · rename_i l hev
    split at h
    · rename_i p hp
      injection h with h
      subst h
      refine ⟨sim_pure fun r a W hrel => ?_, stat_pure⟩
      obtain ⟨vs, hd, he⟩ := Option.map_eq_some_iff.1 (hrel x hx _ hev)
      obtain ⟨V, h1, h2⟩ := dPs_get hd hp
      exact ⟨V, h2, by simp [execOp, ho, ← he, Instr.extract, h1]⟩
    · cases h
  · cases h
end
end Go.Proofs.YtmlpimckfneliaaGreat.Ev
