/- A run reckoned beforehand: the single operations, more (lengths, clear, append). No conditions. -/
import Derived.Test.YtmlpimckfneliaaGreatEj
namespace Go.Proofs.YtmlpimckfneliaaGreat.Ev
section
variable {P : Program} {s : Nat → Value} {o : Oper} {ev : EvF} {H : Hp} {n : Nat} {out : Out} {c : Cfg}
theorem call_eq {k : Call} {b : Builtin} {args : List Operand} {ts : List TypeId} (h1 : k.callee = .builtin b) (h2 : k.args.toList = args) (h3 : k.argTypes.toList = ts) : k = { callee := .builtin b, args := args.toArray, argTypes := ts.toArray } := by
  obtain ⟨k1, k2, k3⟩ := k
  simp only at h1 h2 h3
  subst h1
  congr 1
  · rw [← h2]
  · rw [← h3]
theorem evLen_ok (hc : TyAll P c) {k : Call} (ho : o.op = .call k) (hk : k.callee = .builtin .len) (h : evLen c ev k.args.toList k.argTypes.toList n = some out) : OpSim P s o ev n out ∧ OpStat H n out := by
  generalize hargs : k.args.toList = args at h
  generalize hts : k.argTypes.toList = ts at h
  have hke := call_eq hk hargs hts
  unfold evLen at h
  split at h
  · rename_i x t
    have hx : x ∈ o.op.operands := by simp [ho, hke, Op.operands, Call.operands]
    have hexec : ∀ (a : Act) (W : World), (execOp a.eval o).run P W = ((Builtin.len_ #[t] o.type #[a.eval x]).run P W).andThen fun v w' => .ok (.value v) w' := by
      intro a W
      unfold execOp
      rw [ho, hke]
      simp only [resolve, invoke, builtin, Sem.run_bind, Sem.run_pure, Result.andThen_ok, List.map_toArray, List.map_cons, List.map_nil]
    split at h
    · rename_i ti a hti hev
      obtain ⟨d, i, z, hT⟩ := hc t ti hti
      have hK := hT.kind
      split at h <;> rename_i hkd
      · injection h with h
        subst h
        simp only [KindOk, hkd] at hK
        refine ⟨sim_pure fun r ac W hrel => ⟨_, lv_d _, ?_⟩, stat_pure⟩
        obtain ⟨⟨B, cp⟩, hr, he⟩ := Option.map_eq_some_iff.1 (hrel x hx _ hev)
        simp [hexec, ← he, Builtin.len_, run_underlying hT.und, hK, goInt]
      · injection h with h
        subst h
        simp only [KindOk, hkd] at hK
        refine ⟨sim_pure fun r ac W hrel => ⟨_, lv_d _, ?_⟩, stat_pure⟩
        obtain ⟨⟨B, cp⟩, hr, he⟩ := Option.map_eq_some_iff.1 (hrel x hx _ hev)
        simp [hexec, ← he, Builtin.len_, run_underlying hT.und, hK, goInt]
      · injection h with h
        subst h
        simp only [KindOk, hkd] at hK
        refine ⟨sim_pure fun r ac W hrel => ⟨_, lv_d _, ?_⟩, stat_pure⟩
        have he := lit_of (hrel x hx _ hev)
        simp [hexec, he, Builtin.len_, run_underlying hT.und, hK, goInt]
      · injection h with h
        subst h
        simp only [KindOk, hkd] at hK
        refine ⟨sim_pure fun r ac W hrel => ⟨_, lv_d _, ?_⟩, stat_pure⟩
        simp [hexec, Builtin.len_, run_underlying hT.und, hK, goInt]
      · cases h
    · rename_i ti a hti hev
      obtain ⟨d, i, z, hT⟩ := hc t ti hti
      have hK := hT.kind
      split at h
      · rename_i hkd
        injection h with h
        subst h
        simp only [KindOk, hkd] at hK
        refine ⟨sim_pure fun r ac W hrel => ⟨_, lv_d _, ?_⟩, stat_pure⟩
        simp [hexec, Builtin.len_, run_underlying hT.und, hK, goInt]
      · cases h
    · cases h
  · cases h
theorem evCap_ok (hc : TyAll P c) {k : Call} (ho : o.op = .call k) (hk : k.callee = .builtin .cap) (h : evCap c ev k.args.toList k.argTypes.toList n = some out) : OpSim P s o ev n out ∧ OpStat H n out := by
  generalize hargs : k.args.toList = args at h
  generalize hts : k.argTypes.toList = ts at h
  have hke := call_eq hk hargs hts
  unfold evCap at h
  split at h
  · rename_i x t
    have hx : x ∈ o.op.operands := by simp [ho, hke, Op.operands, Call.operands]
    have hexec : ∀ (a : Act) (W : World), (execOp a.eval o).run P W = ((Builtin.cap_ #[t] o.type #[a.eval x]).run P W).andThen fun v w' => .ok (.value v) w' := by
      intro a W
      unfold execOp
      rw [ho, hke]
      simp only [resolve, invoke, builtin, Sem.run_bind, Sem.run_pure, Result.andThen_ok, List.map_toArray, List.map_cons, List.map_nil]
    split at h
    · rename_i ti b off len cap hti hev
      obtain ⟨d, i, z, hT⟩ := hc t ti hti
      have hK := hT.kind
      split at h
      · rename_i hkd
        injection h with h
        subst h
        simp only [KindOk, hkd] at hK
        refine ⟨sim_pure fun r ac W hrel => ⟨_, lv_d _, ?_⟩, stat_pure⟩
        obtain ⟨⟨B, cp⟩, hr, he⟩ := Option.map_eq_some_iff.1 (hrel x hx _ hev)
        simp [hexec, ← he, Builtin.cap_, run_underlying hT.und, hK, goInt]
      · cases h
    · cases h
  · cases h
theorem zeroCells_eq (z : Array Value) (k m : Nat) (hm : z.size = m) (h0 : 0 < m) : (Builtin.zeroCells z k).toList = repsV k z.toList := by
  have := zero_row z k m hm h0
  unfold Builtin.zeroCells
  rw [hm] at this ⊢
  rw [this]
theorem clear_sim {x : Operand} {te : TI} {b off len : Nat} {z' : Value} {d' : TypeDesc} {i' : TypeInfo} {e : Nat} (hT' : TyOk P e te d' i' z')
    (hrun : ∀ (a : Act) (W : World) (B cp : Nat) (vs : List Value), vs = repsV len te.zero → (storeCells ⟨B, off, none⟩ vs).run P W = .ok () (W.setCells B off vs) → a.eval x = .slice (some ⟨B, off, none⟩) len cp → (execOp a.eval o).run P W = .ok (.value (.tuple #[])) (W.setCells B off vs))
    (hrel0 : ∀ (r : Ren) (a : Act), (∀ y ∈ o.op.operands, Rl s r ev a y) → ∃ B cp0 cp, r b = some (B, cp0) ∧ a.eval x = .slice (some ⟨B, off, none⟩) len cp)
    (h : clearAt te b off len H n = some out) : OpSim P s o ev n out ∧ OpStat H n out := by
  unfold clearAt at h
  split at h
  · cases h
  · rename_i k hk
    split at h
    · rename_i hb
      injection h with h
      subst h
      simp only [Bool.and_eq_true] at hb
      have hb1 : off + len * te.size ≤ k.cs.length := Nat.le_of_ble_eq_true hb.1
      refine ⟨?_, ⟨by simpa using findH_mem hk, Nat.le_refl _, by simp, by simp, fun b' hb' => ⟨k, by simpa using hb'⟩⟩⟩
      intro r a W hrel hlow hfree hF K Q hK
      obtain ⟨B, cp0, cp, hr, he⟩ := hrel0 r a hrel
      have hd : dL s r (reps len (te.zero.map .lit)) = some (repsV len te.zero) := dL_reps (dL_lits _) len
      have hlen : (repsV len te.zero).length = len * te.size := by rw [repsV_len, hT'.zlen]
      have hone : ∀ v ∈ repsV len te.zero, v.oneCell' = true := by
        have key : ∀ m, ∀ v ∈ repsV m te.zero, v.oneCell' = true := by
          intro m
          induction m with
          | zero => simp [repsV]
          | succ m ih =>
            intro v hv
            unfold repsV at hv
            rcases List.mem_append.1 hv with hv | hv
            · exact hT'.one v hv
            · exact ih v hv
        exact key len
      obtain ⟨vs, h1, h2, h3⟩ := hF.cells hr
      have ht : W.there B off (repsV len te.zero).length := there_mid h3 (by rw [hlen, dL_len h1]; exact hb1)
      have hst := run_storeCells_cells (P := P) B off (repsV len te.zero) 0 W (fun j hj => by simpa using (ht j hj).1) (fun j hj => by simpa using (ht j hj).2) hone
      simp only [Nat.add_zero] at hst
      unfold Oper.wp
      rw [hrun a W B cp _ rfl hst he]
      exact hK r _ _ (post_cells hr) rfl (by simpa using fits_cells hF hr hd (by rw [hlen]; exact hb1))
    · cases h
theorem evClear_ok (hc : TyAll P c) {k : Call} (ho : o.op = .call k) (hk : k.callee = .builtin .clear) (h : evClear c ev k.args.toList k.argTypes.toList H n = some out) : OpSim P s o ev n out ∧ OpStat H n out := by
  generalize hargs : k.args.toList = args at h
  generalize hts : k.argTypes.toList = ts at h
  have hke := call_eq hk hargs hts
  unfold evClear at h
  split at h
  · rename_i x t
    have hx : x ∈ o.op.operands := by simp [ho, hke, Op.operands, Call.operands]
    have hexec : ∀ (a : Act) (W : World), (execOp a.eval o).run P W = ((Builtin.clear_ #[t] o.type #[a.eval x]).run P W).andThen fun v w' => .ok (.value v) w' := by
      intro a W
      unfold execOp
      rw [ho, hke]
      simp only [resolve, invoke, builtin, Sem.run_bind, Sem.run_pure, Result.andThen_ok, List.map_toArray, List.map_cons, List.map_nil]
    split at h
    · rename_i ti hti
      obtain ⟨d, i, z, hT⟩ := hc t ti hti
      have hK := hT.kind
      split at h
      · rename_i te b off len cap hkd hte hev
        obtain ⟨d', i', z', hT'⟩ := hc _ te hte
        simp only [KindOk, hkd] at hK
        refine clear_sim (x := x) (off := off) (len := len) hT' ?_ ?_ h
        · intro a W B cp vs hvs hst he
          have h0 : 0 < len ∧ 0 < te.size := by
            unfold clearAt at h
            split at h
            · cases h
            · split at h
              · rename_i hb
                simp only [Bool.and_eq_true] at hb
                exact ⟨by simpa using hb.2.1, by simpa using hb.2.2⟩
              · cases h
          have hzc := zeroCells_eq z'.cells len te.size (by rw [← hT'.zlen, ← hT'.cells]; simp) h0.2
          rw [hT'.cells, ← hvs] at hzc
          obtain ⟨len', rfl⟩ : ∃ m, len = m + 1 := ⟨len - 1, by omega⟩
          rw [hexec, he]
          simp [Builtin.clear_, run_underlying hT.und, hK, run_zero hT'.info hT'.zero, hzc, hst]
        · intro r a hrel
          obtain ⟨⟨B, cp⟩, hr, he⟩ := Option.map_eq_some_iff.1 (hrel x hx _ hev)
          exact ⟨B, cp, _, hr, he.symm⟩
      · rename_i te b off len sub hkd hte hev
        obtain ⟨d', i', z', hT'⟩ := hc _ te hte
        simp only [KindOk, hkd] at hK
        refine clear_sim (x := x) (off := off) (len := len) hT' ?_ ?_ h
        · intro a W B cp vs hvs hst he
          have h0 : 0 < len ∧ 0 < te.size := by
            unfold clearAt at h
            split at h
            · cases h
            · split at h
              · rename_i hb
                simp only [Bool.and_eq_true] at hb
                exact ⟨by simpa using hb.2.1, by simpa using hb.2.2⟩
              · cases h
          have hzc := zeroCells_eq z'.cells len te.size (by rw [← hT'.zlen, ← hT'.cells]; simp) h0.2
          rw [hT'.cells, ← hvs] at hzc
          obtain ⟨len', rfl⟩ : ∃ m, len = m + 1 := ⟨len - 1, by omega⟩
          rw [hexec, he]
          simp [Builtin.clear_, run_underlying hT.und, hK, run_zero hT'.info hT'.zero, hzc, hst]
        · intro r a hrel
          obtain ⟨⟨B, cp⟩, hr, he⟩ := Option.map_eq_some_iff.1 (hrel x hx _ hev)
          exact ⟨B, cp, _, hr, he.symm⟩
      · cases h
    · cases h
  · cases h
end
end Go.Proofs.YtmlpimckfneliaaGreat.Ev
