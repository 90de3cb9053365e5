/- A run reckoned beforehand: append. No conditions. -/
import Derived.Test.YtmlpimckfneliaaGreatEk
namespace Go.Proofs.YtmlpimckfneliaaGreat.Ev
section
variable {P : Program} {s : Nat → Value} {o : Oper} {ev : EvF} {H : Hp} {n : Nat} {out : Out} {c : Cfg}
theorem srcOf_ok {te : TI} {x : CV} {m b : Nat} {cs : List CA} {k : CB} (h : srcOf te x H = some (m, cs, b, k)) :
    (b, k) ∈ H ∧ ∃ off, cs = (k.cs.drop off).take (Nat.mul m te.size) ∧ ∀ (r : Ren) (V : Value), x.d s r = some V → ∃ B cp c, r b = some (B, cp) ∧ V = .slice (some ⟨B, off, none⟩) m c := by
  unfold srcOf at h
  split at h
  · rename_i b0 off len cap
    split at h
    · rename_i k0 hk
      injection h with h
      simp only [Prod.mk.injEq] at h
      obtain ⟨rfl, rfl, rfl, rfl⟩ := h
      refine ⟨findH_mem hk, off, rfl, fun r V hd => ?_⟩
      obtain ⟨⟨B, cp⟩, hr, he⟩ := Option.map_eq_some_iff.1 hd
      exact ⟨B, cp, _, hr, he.symm⟩
    · cases h
  · rename_i b0 off len cap
    split at h
    · rename_i k0 hk
      injection h with h
      simp only [Prod.mk.injEq] at h
      obtain ⟨rfl, rfl, rfl, rfl⟩ := h
      refine ⟨findH_mem hk, off, rfl, fun r V hd => ?_⟩
      obtain ⟨⟨B, cp⟩, hr, he⟩ := Option.map_eq_some_iff.1 hd
      exact ⟨B, cp, _, hr, he.symm⟩
    · cases h
  · cases h
/-- a row that may be appended to -/
theorem ontoOf_ok {ti te : TI} {x : CV} {old : List CA} {len : Nat} {q : Option (Nat × CB)} (h : ontoOf ti te x H = some (old, len, q)) :
    (q = none ∧ old = [] ∧ len = 0 ∧ ∀ (r : Ren) (V : Value), x.d s r = some V → V = .slice none 0 0) ∨
    ∃ b k, q = some (b, k) ∧ (b, k) ∈ H ∧ ∀ (r : Ren) (V : Value) (W : World), x.d s r = some V → Fits s r [(b, k)] W → ∃ B cp xs c, r b = some (B, cp) ∧ V = .slice (some ⟨B, 0, none⟩) len c ∧ dL s r old = some xs ∧ W.ownsRow 0 ti.elem te.size V len xs := by
  unfold ontoOf at h
  split at h
  · injection h with h
    simp only [Prod.mk.injEq] at h
    obtain ⟨rfl, rfl, rfl⟩ := h
    exact .inl ⟨rfl, rfl, rfl, fun r V hd => lit_of hd⟩
  · rename_i b len0
    split at h
    · rename_i k hk
      split at h
      · cases h
      · rename_i hcond
        injection h with h
        simp only [Prod.mk.injEq] at h
        obtain ⟨rfl, rfl, rfl⟩ := h
        have h1 : k.sl = some te.size := Decidable.of_not_not fun q => hcond (by simp [q])
        have h2 : k.t = ti.elem := Decidable.of_not_not fun q => hcond (by simp [q])
        have h3 : k.cs.length = len0 * te.size := Decidable.of_not_not fun q => hcond (by simp [q])
        refine .inr ⟨b, k, rfl, findH_mem hk, fun r V W hd hF => ?_⟩
        obtain ⟨⟨B, cp⟩, hr, he⟩ := Option.map_eq_some_iff.1 hd
        obtain ⟨vs, cur, q1, q2, q3⟩ := hF.fit (b, k) (List.mem_singleton.2 rfl) B cp hr
        have hl := dL_len q1
        have hroom := q3.2
        simp only at hl
        simp only [h1] at hroom
        have hz : 0 < te.size := by
          have : te.size ≠ 0 := fun q => hcond (by simp [q])
          omega
        have hle : len0 ≤ cp := by
          have : len0 * te.size ≤ cp * te.size := by omega
          exact Nat.le_of_mul_le_mul_right this hz
        refine ⟨B, cp, vs, _, hr, he.symm, q1, by rw [hl, h3], .inr ⟨B, cp - 0, cur, he.symm, Nat.zero_le _, by rw [q2, ← h2], by omega, by omega, by rw [Nat.sub_zero]; exact hroom.2.1, ?_⟩⟩
        rw [← h3, ← hl]
        exact q3.1
    · cases h
  · rename_i b len0 cap
    split at h
    · rename_i k hk
      split at h
      · cases h
      · rename_i hcond
        injection h with h
        simp only [Prod.mk.injEq] at h
        obtain ⟨rfl, rfl, rfl⟩ := h
        have h1 : k.sl = none := Decidable.of_not_not fun q => hcond (by simp [q])
        have h2 : k.t = ti.elem := Decidable.of_not_not fun q => hcond (by simp [q])
        have h3 : k.cs.length = cap * te.size := Decidable.of_not_not fun q => hcond (by simp [q])
        have h4 : len0 ≤ cap := Nat.not_lt.1 fun q => hcond (by simp [q])
        have h5 : cap ≤ 4096 := Nat.not_lt.1 fun q => hcond (by simp [q])
        refine .inr ⟨b, k, rfl, findH_mem hk, fun r V W hd hF => ?_⟩
        obtain ⟨⟨B, cp⟩, hr, he⟩ := Option.map_eq_some_iff.1 hd
        obtain ⟨vs, cur, q1, q2, q3⟩ := hF.fit (b, k) (List.mem_singleton.2 rfl) B cp hr
        have hl := dL_len q1
        have hroom := q3.2
        simp only at hl
        simp only [h1] at hroom
        have hmul : len0 * te.size ≤ cap * te.size := Nat.mul_le_mul_right _ h4
        refine ⟨B, cp, vs.take (len0 * te.size), _, hr, he.symm, dL_take _ q1, by rw [List.length_take]; omega, .inr ⟨B, cap, cur, he.symm, Nat.zero_le _, by rw [q2, ← h2], h4, by unfold maxLen; omega, by omega, ?_⟩⟩
        have : cur.toList.take vs.length = cur.toList := List.take_of_length_le (by simp; omega)
        have q4 := q3.1
        rw [this] at q4
        rw [q4]
    · cases h
  · cases h
theorem app_post {r : Ren} {W W' : World} {b B cp g cap : Nat} (hr : r b = some (B, cp)) (hg : W.grownBy W' (some B)) (hat : g = B ∨ g = W.heap.size) : Post r n W [b] (nam r n g cap) (n + 1) W' := by
  refine ⟨by omega, fun b' hb => ?_, hg.os, hg.tape, hg.output, hg.size, fun i hi hne => hg.block i hi fun e => ?_, fun b' B' c' h1 h2 h3 => ?_⟩
  · unfold nam
    rw [if_neg (by omega)]
  · injection e with e
    exact hne b (by simp) cp (e ▸ hr)
  · obtain rfl : b' = n := by omega
    rw [nam_at] at h3
    injection h3 with h3
    injection h3 with h3 _
    rcases hat with h | h
    · exact .inr ⟨b, by simp, cp, by rw [hr, ← h3, h]⟩
    · left
      omega
theorem app_post0 {r : Ren} {W W' : World} {cap : Nat} (hg : W.grownBy W' none) : Post r n W [] (nam r n W.heap.size cap) (n + 1) W' := by
  refine ⟨by omega, fun b' hb => ?_, hg.os, hg.tape, hg.output, hg.size, fun i hi _ => hg.block i hi (by simp), fun b' B' c' h1 h2 h3 => ?_⟩
  · unfold nam
    rw [if_neg (by omega)]
  · obtain rfl : b' = n := by omega
    rw [nam_at] at h3
    injection h3 with h3
    injection h3 with h3 _
    left
    omega
theorem fits_own {r' : Ren} {W' : World} {g cap len m : Nat} {e : TypeId} {cs : List CA} {xs : List Value} (hd : dL s r' cs = some xs) (hn : r' n = some (g, cap)) (ho : W'.ownsRow 0 e m (.slice (some ⟨g, 0, none⟩) len cap) len xs) : Fits s r' [(n, ⟨e, cs, some m⟩)] W' := by
  refine ⟨fun p hp B c' hB => ?_, fun p hp q hq B c c' _ _ => ?_⟩
  · rw [List.mem_singleton] at hp
    subst hp
    rw [hn] at hB
    injection hB with hB
    injection hB with hB hc
    subst hB
    subst hc
    obtain ⟨h1, h2 | ⟨g', cap', cur, hv, _, hw, h3, h4, h5, h6⟩⟩ := ho
    · cases h2.1
    · injection hv with e1 _ e3
      injection e1 with e1
      injection e1 with e1
      subst e1
      subst e3
      refine ⟨xs, cur, hd, hw, ?_, ?_⟩
      · rw [h1]
        exact h6
      · exact ⟨by rw [h1]; exact Nat.mul_le_mul_right _ h3, h5, h4⟩
  · rw [List.mem_singleton] at hp hq
    rw [hp, hq]
theorem evApp_ok (hc : TyAll P c) (hs1 : ∀ n, (s n).oneCell' = true) {k : Call} (ho : o.op = .call k) (hk : k.callee = .builtin .append) (h : evApp c ev k.args.toList k.argTypes.toList H n = some out) : OpSim P s o ev n out ∧ OpStat H n out := by
  generalize hargs : k.args.toList = args at h
  generalize hts : k.argTypes.toList = ts at h
  have hke := call_eq hk hargs hts
  unfold evApp at h
  split at h
  · rename_i sx x t t'
    have hsx : sx ∈ o.op.operands := by simp [ho, hke, Op.operands, Call.operands]
    have hx : x ∈ o.op.operands := by simp [ho, hke, Op.operands, Call.operands]
    split at h
    · rename_i sv xv hevs hevx
      unfold evAppend at h
      split at h
      · rename_i ti htt hti
        have htt := Nat.eq_of_beq_eq_true htt
        subst htt
        obtain ⟨d, i, z, hT⟩ := hc t ti hti
        have hK := hT.kind
        split at h
        · rename_i te hkd hte
          obtain ⟨d', i', z', hT'⟩ := hc _ te hte
          simp only [KindOk, hkd] at hK
          subst hK
          unfold appAt at h
          split at h
          · rename_i m cs b' k' old len q hsrc honto
            split at h
            · cases h
            · rename_i hcond
              have c1 : m ≠ 0 := fun q => hcond (by simp [q])
              have c2 : cs.length = m * te.size := Decidable.of_not_not fun q => hcond (by simp [q])
              have c3 : len + m ≤ 4096 := Nat.not_lt.1 fun q => hcond (by simp [q])
              have c4 : te.size ≠ 0 := fun q => hcond (by simp [q])
              have c5 : te.bytes ≤ 4096 := Nat.not_lt.1 fun q => hcond (by simp [q])
              have c6 : litsOk cs = true := by
                cases hq : litsOk cs with
                | true => rfl
                | false => exact (hcond (by simp [hq])).elim
              have hbytes : (len + m) * te.bytes ≤ 4096 * 4096 := Nat.mul_le_mul c3 c5
              have hop : o.op = .call { callee := .builtin .append, args := #[sx, x], argTypes := #[t, t] } := by rw [ho, hke]
              obtain ⟨hmem, off, hcs, hsv⟩ := srcOf_ok (s := s) hsrc
              have hzs : z'.cells.size = te.size := by rw [← hT'.zlen, ← hT'.cells]; simp
              -- the cells that are appended
              have hnews : ∀ (r : Ren) (W : World) (B cp : Nat), Fits s r [(b', k')] W → r b' = some (B, cp) → ∃ news, dL s r cs = some news ∧ news.length = m * te.size ∧ (∀ j u, news[j]? = some u → W.cell? ((⟨B, off, none⟩ : Addr).add j) = some u) ∧ ∀ u ∈ news, u.oneCell' = true := by
                intro r W B cp hF hr
                obtain ⟨vs, h1, h2, _⟩ := hF.cells hr
                have hd : dL s r cs = some ((vs.drop off).take (m * te.size)) := by
                  rw [hcs]
                  exact dL_take _ (dL_drop off h1)
                refine ⟨_, hd, by rw [dL_len hd, c2], fun j u hu => ?_, litsOk_one hs1 c6 hd⟩
                rw [Addr.add_mid]
                exact rangeAt_mid h2 off _ j u hu
              rcases ontoOf_ok (s := s) honto with ⟨rfl, rfl, rfl, hnil⟩ | ⟨b, k, rfl, hbk, hon⟩
              · injection h with h
                subst h
                refine ⟨?_, ⟨by simpa using hmem, Nat.le_succ _, by simp, by simp, by simp⟩⟩
                intro r a W hrel hlow hfree hF K Q hK
                obtain ⟨B, cp, cc, hr, hv⟩ := hsv r _ (hrel x hx _ hevx)
                obtain ⟨news, n1, n2, n3, n4⟩ := hnews r W B cp hF hr
                have hv0 := hnil r _ (hrel sx hsx _ hevs)
                refine wp_append_lies W sx x t hop 0 ti.elem i' z' te.size te.bytes hT.und hT'.info hT'.zero hT'.size hT'.bytes hzs (by omega) (.slice none 0 0) 0 [] hv0 ⟨by simp, .inl ⟨rfl, rfl⟩⟩ ⟨B, off, none⟩ m cc news hv n2 n3 n4 (by omega) (by unfold maxLen; omega) (by rw [Nat.zero_add] at hbytes ⊢; omega) (Nat.zero_le _) _ rfl ?_
                intro g cap W' hown hgrow hat hlt
                rw [Nat.zero_add, List.nil_append] at hown
                have hg : g = W.heap.size := by
                  rcases hat with h | h
                  · cases h
                  · exact h
                subst hg
                have hsub := nam_sub (cap := cap) (B := W.heap.size) (hfree n (Nat.le_refl _) (Nat.lt_succ_self _))
                rw [Nat.zero_add]
                exact hK (nam r n W.heap.size cap) _ _ (app_post0 hgrow) (by simp [CV.d, CP.d, CA.d, pv, nam_at]) (by rw [List.append_nil]; exact fits_own (dL_sub hsub n1) (nam_at _ _ _ _) hown)
              · injection h with h
                subst h
                refine ⟨?_, ⟨by simp [hbk, hmem], Nat.le_succ _, by simp, by simp, by simp⟩⟩
                intro r a W hrel hlow hfree hF K Q hK
                obtain ⟨B, cp, cc, hr, hv⟩ := hsv r _ (hrel x hx _ hevx)
                obtain ⟨news, n1, n2, n3, n4⟩ := hnews r W B cp (hF.sublist (by simp)) hr
                obtain ⟨B0, cp0, xs, c0, hr0, hv0, hxs, hown0⟩ := hon r _ W (hrel sx hsx _ hevs) (hF.sublist (by simp))
                refine wp_append_lies W sx x t hop 0 ti.elem i' z' te.size te.bytes hT.und hT'.info hT'.zero hT'.size hT'.bytes hzs (by omega) (a.eval sx) len xs rfl hown0 ⟨B, off, none⟩ m cc news hv n2 n3 n4 (by omega) (by unfold maxLen; omega) (by omega) (Nat.zero_le _) _ rfl ?_
                intro g cap W' hown hgrow hat hlt
                rw [hv0] at hgrow hat
                have hat' : g = B0 ∨ g = W.heap.size := by
                  rcases hat with h | h
                  · left
                    injection h with h
                    exact h.symm
                  · exact .inr h
                have hsub := nam_sub (cap := cap) (B := g) (hfree n (Nat.le_refl _) (Nat.lt_succ_self _))
                exact hK (nam r n g cap) _ _ (app_post hr0 hgrow hat') (by simp [CV.d, CP.d, CA.d, pv, nam_at]) (by rw [List.append_nil]; exact fits_own (dL_app (dL_sub hsub hxs) (dL_sub hsub n1)) (nam_at _ _ _ _) hown)
          · cases h
        · cases h
      · cases h
    · cases h
  · cases h
end
end Go.Proofs.YtmlpimckfneliaaGreat.Ev
