/- A run reckoned beforehand: the single operations (moves, loads, stores, new blocks, fields). No conditions. -/
import Derived.Test.YtmlpimckfneliaaGreatEc
namespace Go.Proofs.YtmlpimckfneliaaGreat.Ev
section
variable {P : Program} {s : Nat → Value} {o : Oper} {ev : EvF} {H : Hp} {n : Nat} {out : Out} {c : Cfg}
theorem run_ty {t : TypeId} {i : TypeInfo} (h : P.info? t = some i) (W : World) : (typeInfo t).run P W = .ok i W := by simp [typeInfo, h]
theorem run_sz {t : TypeId} {i : TypeInfo} (h : P.info? t = some i) (W : World) : (sizeOf t).run P W = .ok i.size W := by simp [sizeOf, typeInfo, h]
theorem run_zero {t : TypeId} {i : TypeInfo} {z : Value} (h : P.info? t = some i) (hz : i.zero = some z) (W : World) : (zeroValue t).run P W = .ok z W := by simp [zeroValue, typeInfo, h, hz]
theorem run_isAgg {t : TypeId} {d : TypeDesc} (h : P.underlying t = some d) (W : World) : (isAgg t).run P W = .ok d.isRow W := by
  unfold isAgg
  rw [Sem.run_bind, run_underlying h W]
  cases d <;> simp
theorem ptr_of {r : Ren} {b off : Nat} {V : Value} (h : (CV.p (.one (.ptr b off))).d s r = some V) : ∃ B cap, r b = some (B, cap) ∧ V = .pointer (some ⟨B, off, none⟩) := by
  simp only [CV.d, CP.d, CA.d, Option.map_eq_some_iff] at h
  obtain ⟨⟨B, cap⟩, h1, h2⟩ := h
  exact ⟨B, cap, h1, h2.symm⟩
theorem lit_of {r : Ren} {v V : Value} (h : (CV.p (.one (.lit v))).d s r = some V) : V = v := by
  simp only [CV.d, CP.d, CA.d, Option.some.injEq] at h
  exact h.symm
theorem lv_d {r : Ren} (v : Value) : (lv v).d s r = some v := rfl
theorem evMove_ok {x : Operand} (ho : ∀ a : Act, execOp a.eval o = pure (.value (a.eval x))) (hx : x ∈ o.op.operands) (h : evMove ev x n = some out) : OpSim P s o ev n out ∧ OpStat H n out := by
  unfold evMove at h
  split at h
  · rename_i v hv
    injection h with h
    subst h
    exact ⟨sim_pure fun r a W hrel => ⟨a.eval x, hrel x hx _ hv, by rw [ho]; rfl⟩, stat_pure⟩
  · cases h
theorem evPick_ok {x y z : Operand} (ho : o.op = .pick x y z) (h : evPick ev x y z n = some out) : OpSim P s o ev n out ∧ OpStat H n out := by
  have hx : x ∈ o.op.operands := by simp [ho, Op.operands]
  have hy : y ∈ o.op.operands := by simp [ho, Op.operands]
  have hz : z ∈ o.op.operands := by simp [ho, Op.operands]
  unfold evPick evMove at h
  split at h
  · rename_i hv
    split at h
    · rename_i v hw
      injection h with h
      subst h
      exact ⟨sim_pure fun r a W hrel => ⟨a.eval y, hrel y hy _ hw, by have := (lit_of (hrel x hx _ hv)); simp [execOp, ho, this, asBool]⟩, stat_pure⟩
    · cases h
  · rename_i hv
    split at h
    · rename_i v hw
      injection h with h
      subst h
      exact ⟨sim_pure fun r a W hrel => ⟨a.eval z, hrel z hz _ hw, by have := (lit_of (hrel x hx _ hv)); simp [execOp, ho, this, asBool]⟩, stat_pure⟩
    · cases h
  · cases h
theorem loadP_ok {t : Nat} {ti : TI} {d : TypeDesc} {i : TypeInfo} {z : Value} (hT : TyOk P t ti d i z) {k : CB} {off : Nat} {v : CV} (h : loadP ti k off = some v) {r : Ren} {W : World} {b B cap : Nat} (hF : Fits s r [(b, k)] W) (hr : r b = some (B, cap)) :
    ∃ V, v.d s r = some V ∧ (loadVar t ⟨B, off, none⟩).run P W = .ok V W := by
  obtain ⟨vs, h1, h2, h3⟩ := hF.cells hr
  unfold loadP at h
  split at h
  · rename_i hag
    split at h
    · rename_i hl
      injection h with h
      subst h
      have hd := dL_take ti.size (dL_drop off h1)
      have hlen : ((vs.drop off).take ti.size).length = ti.size := by
        rw [dL_len hd]
        exact Nat.eq_of_beq_eq_true hl
      refine ⟨.agg ((vs.drop off).take ti.size).toArray, by simp [CV.d, CP.d, hd], run_loadVar_mid W B off t _ d (rangeAt_mid h2 off ti.size) hT.und (by rw [hT.row, hag]) (by rw [hT.info, hlen, ← hT.size]; rfl)⟩
    · cases h
  · rename_i hag
    split at h
    · rename_i a ha
      injection h with h
      subst h
      obtain ⟨V, hV, haV⟩ := dL_get h1 ha
      refine ⟨V, haV, ?_⟩
      have := h2 off V hV
      rw [Nat.zero_add] at this
      simp [loadVar, run_isAgg hT.und, hT.row, hag, this]
    · cases h
theorem evLoad_ok (hc : ∀ t ti, c.ty t = some ti → ∃ d i z, TyOk P t ti d i z) {t : Nat} {x : Operand} (ho : o.op = .load t x) (h : evLoad c ev t x H n = some out) : OpSim P s o ev n out ∧ OpStat H n out := by
  have hx : x ∈ o.op.operands := by simp [ho, Op.operands]
  unfold evLoad at h
  split at h
  · rename_i ti b off hti hev
    obtain ⟨d, i, z, hT⟩ := hc t ti hti
    unfold evLoad2 at h
    split at h
    · cases h
    · rename_i k hk
      split at h
      · rename_i v hv
        injection h with h
        subst h
        refine ⟨sim_read fun r a W hrel hF => ?_, stat_read (findH_mem hk)⟩
        obtain ⟨B, cap, hr, he⟩ := ptr_of (hrel x hx _ hev)
        obtain ⟨V, h1, h2⟩ := loadP_ok hT hv hF hr
        exact ⟨V, h1, by simp [execOp, ho, he, Instr.loadAt, Instr.sureAddr, h2]⟩
      · cases h
  · cases h
/-- a block's cells, with others laid over them -/
theorem setCells_heap {B : Nat} {t : TypeId} : ∀ (vs : List Value) (off : Nat) (W : World) (cur : Array Value), W.heap[B]? = some (.cells cur t (0, 0)) → off + vs.length ≤ cur.size →
    ∃ cur', (W.setCells B off vs).heap[B]? = some (.cells cur' t (0, 0)) ∧ cur'.toList = cur.toList.take off ++ (vs ++ cur.toList.drop (off + vs.length))
  | [], off, W, cur, h, hl => ⟨cur, h, by simp⟩
  | v :: vs, off, W, cur, h, hl => by
    have h' : (W.setCell ⟨B, off, none⟩ v).heap[B]? = some (.cells (cur.setIfInBounds off v) t (0, 0)) := by simp [World.setCell, Array.getElem?_modify, h]
    obtain ⟨cur', h1, h2⟩ := setCells_heap vs (off + 1) _ _ h' (by simp at hl ⊢; omega)
    refine ⟨cur', h1, ?_⟩
    rw [h2, Array.toList_setIfInBounds]
    have hoff : off < cur.toList.length := by simp at hl ⊢; omega
    rw [List.take_set, List.take_succ_eq_append_getElem hoff, List.set_append_right _ _ (by simp [List.length_take]; omega), List.drop_set_of_lt (by omega)]
    have e1 : off - (List.take off cur.toList).length = 0 := by simp [List.length_take]; omega
    rw [e1]
    simp only [List.set_cons_zero, List.append_assoc, List.cons_append, List.nil_append, List.length_cons]
    congr 3
    rw [show off + 1 + vs.length = off + (vs.length + 1) by omega]
theorem setCells_other {B : Nat} : ∀ (vs : List Value) (off : Nat) (W : World) (i : Nat), i ≠ B → (W.setCells B off vs).heap[i]? = W.heap[i]?
  | [], _, _, _, _ => rfl
  | v :: vs, off, W, i, h => by
    show ((W.setCell ⟨B, off, none⟩ v).setCells B (off + 1) vs).heap[i]? = _
    rw [setCells_other vs (off + 1) _ i h]
    simp [World.setCell, Array.getElem?_modify, Ne.symm h]
theorem setCells_rest (B : Nat) : ∀ (vs : List Value) (off : Nat) (W : World), (W.setCells B off vs).os = W.os ∧ (W.setCells B off vs).tape = W.tape ∧ (W.setCells B off vs).output = W.output ∧ (W.setCells B off vs).heap.size = W.heap.size
  | [], _, _ => ⟨rfl, rfl, rfl, rfl⟩
  | v :: vs, off, W => by
    obtain ⟨h1, h2, h3, h4⟩ := setCells_rest B vs (off + 1) (W.setCell ⟨B, off, none⟩ v)
    exact ⟨h1, h2, h3, h4.trans (by simp [World.setCell])⟩
theorem post_cells {r : Ren} {W : World} {b B cap off : Nat} {vs : List Value} (hr : r b = some (B, cap)) : Post r n W [b] r n (W.setCells B off vs) := by
  obtain ⟨h1, h2, h3, h4⟩ := setCells_rest B vs off W
  refine ⟨Nat.le_refl _, fun _ _ => rfl, h1, h2, h3, Nat.le_of_eq h4.symm, fun i _ hi => setCells_other vs off W i fun e => ?_, fun _ _ _ h1 h2 _ => absurd (Nat.lt_of_le_of_lt h1 h2) (Nat.lt_irrefl _)⟩
  exact hi b (by simp) cap (e ▸ hr)
theorem dL_splice {r : Ren} {cs xs : List CA} {vs us : List Value} (off : Nat) (h1 : dL s r cs = some vs) (h2 : dL s r xs = some us) : dL s r (splice cs off xs) = some (vs.take off ++ (us ++ vs.drop (off + us.length))) := by
  have hl := dL_len h2
  unfold splice
  refine dL_app (dL_take off h1) (dL_app h2 ?_)
  rw [hl]
  exact dL_drop _ h1
theorem splice_take (off : Nat) (C us : List Value) (L : Nat) (h : off + us.length ≤ L) (hL : L ≤ C.length) : (C.take off ++ (us ++ C.drop (off + us.length))).take L = (C.take L).take off ++ (us ++ (C.take L).drop (off + us.length)) := by
  have h1 : (C.take off).length = off := by rw [List.length_take]; omega
  rw [List.take_append, h1, List.take_of_length_le (by omega), List.take_append, List.take_of_length_le (l := us) (by omega), List.take_take, List.drop_take, show min off L = off by omega, show L - off - us.length = L - (off + us.length) by omega]
theorem fits_cells {r : Ren} {W : World} {b B cap off : Nat} {k : CB} {xs : List CA} {us : List Value} (hF : Fits s r [(b, k)] W) (hr : r b = some (B, cap)) (hx : dL s r xs = some us) (hl : off + us.length ≤ k.cs.length) :
    Fits s r [(b, ⟨k.t, splice k.cs off xs, k.sl⟩)] (W.setCells B off us) := by
  refine ⟨fun p hp B' cap' hB => ?_, fun p hp q hq B c c' _ _ => ?_⟩
  · rw [List.mem_singleton] at hp
    subst hp
    rw [hr] at hB
    injection hB with hB
    injection hB with hB hcap
    subst hB
    subst hcap
    obtain ⟨vs, cur, h1, h2, h3⟩ := hF.fit (b, k) (List.mem_singleton.2 rfl) B cap hr
    have hk := dL_len h1
    have hsz := h3.le
    simp only at hk
    obtain ⟨cur', h4, h5⟩ := setCells_heap us off W cur h2 (by omega)
    have hlen : (vs.take off ++ (us ++ vs.drop (off + us.length))).length = vs.length := by
      simp only [List.length_append, List.length_take, List.length_drop]
      omega
    refine ⟨_, cur', dL_splice off h1 hx, h4, h3.like ?_ hlen ?_⟩
    · rw [hlen, h5, splice_take off cur.toList us vs.length (by omega) (by simpa using hsz), h3.1]
    · have := congrArg List.length h5
      simp only [List.length_append, List.length_take, List.length_drop, Array.length_toList] at this
      omega
  · rw [List.mem_singleton] at hp hq
    rw [hp, hq]
theorem litsOk_one (hs1 : ∀ n, (s n).oneCell' = true) {r : Ren} : ∀ {l : List CA} {vs : List Value}, litsOk l = true → dL s r l = some vs → ∀ v ∈ vs, v.oneCell' = true
  | [], _, _, hv => by injection hv with hv; subst hv; simp
  | a :: l, _, h, hv => by
    obtain ⟨v, us, h1, h2, rfl⟩ := dL_cons hv
    have ha : v.oneCell' = true ∧ litsOk l = true := by
      cases a with
      | lit u =>
        simp only [litsOk, Bool.and_eq_true] at h
        simp only [CA.d, Option.some.injEq] at h1
        exact ⟨h1 ▸ h.1, h.2⟩
      | sym n =>
        simp only [CA.d, Option.some.injEq] at h1
        exact ⟨h1 ▸ hs1 n, h⟩
      | ptr b off => obtain ⟨x, _, rfl⟩ := Option.map_eq_some_iff.1 h1; exact ⟨rfl, h⟩
      | sl b off len cap => obtain ⟨x, _, rfl⟩ := Option.map_eq_some_iff.1 h1; exact ⟨rfl, h⟩
      | slu b off len sub => obtain ⟨x, _, rfl⟩ := Option.map_eq_some_iff.1 h1; exact ⟨rfl, h⟩
      | fn f ps => obtain ⟨x, _, rfl⟩ := Option.map_eq_some_iff.1 h1; exact ⟨rfl, h⟩
    intro u hu
    rcases List.mem_cons.1 hu with rfl | hu
    · exact ha.1
    · exact litsOk_one hs1 ha.2 h2 u hu
theorem cells_of {r : Ren} {p : CP} {V : Value} (h : (CV.p p).d s r = some V) : ∃ vs, dL s r p.cells = some vs ∧ ((∃ v, V = v ∧ vs = [v]) ∨ V = .agg vs.toArray) := by
  cases p with
  | one a =>
    refine ⟨[V], ?_, .inl ⟨V, rfl, rfl⟩⟩
    exact dL_mk h rfl
  | ag cs =>
    obtain ⟨vs, h1, h2⟩ := Option.map_eq_some_iff.1 h
    exact ⟨vs, h1, .inr h2.symm⟩
/-- a value's cells, as the model has them -/
theorem vcells_of {vs : List Value} {V : Value} (h : (∃ v, V = v ∧ vs = [v]) ∨ V = .agg vs.toArray) (h1 : ∀ v ∈ vs, v.oneCell' = true) : V.cells.toList = vs := by
  rcases h with ⟨v, rfl, rfl⟩ | rfl
  · have := h1 V (by simp)
    cases V <;> first | rfl | cases this
  · rfl
theorem run_store (W : World) {B off t : Nat} {V : Value} {vs : List Value} {i : TypeInfo} (hi : P.info? t = some i) (hsz : i.size = vs.length) (hV : V.cells.toList = vs) (ht : W.there B off vs.length) (h1 : ∀ v ∈ vs, v.oneCell' = true) :
    (Instr.storeAt t (.pointer (some ⟨B, off, none⟩)) V).run P W = .ok () (W.setCells B off vs) := by
  have := run_storeCells_cells (P := P) B off vs 0 W (fun j hj => by simpa using (ht j hj).1) (fun j hj => by simpa using (ht j hj).2) h1
  simp only [Nat.add_zero] at this
  have hs : V.cells.size = vs.length := by rw [← hV]; simp
  simp [Instr.storeAt, Instr.sureAddr, storeVar, run_sz hi, hsz, hs, hV, this]
theorem evStore_ok (hc : ∀ t ti, c.ty t = some ti → ∃ d i z, TyOk P t ti d i z) (hs1 : ∀ n, (s n).oneCell' = true) {t : Nat} {x y : Operand} (ho : o.op = .store t x y) (h : evStore c ev t x y H n = some out) : OpSim P s o ev n out ∧ OpStat H n out := by
  have hx : x ∈ o.op.operands := by simp [ho, Op.operands]
  have hy : y ∈ o.op.operands := by simp [ho, Op.operands]
  unfold evStore at h
  split at h
  · rename_i ti b off p hti hev hevy
    obtain ⟨d, i, z, hT⟩ := hc t ti hti
    unfold evStore2 at h
    split at h
    · cases h
    · rename_i k hk
      split at h
      · rename_i hb
        injection h with h
        subst h
        simp only [Bool.and_eq_true] at hb
        obtain ⟨hb1, hb2, hb3⟩ := hb
        have hb1 := Nat.eq_of_beq_eq_true hb1
        have hb2 := Nat.le_of_ble_eq_true hb2
        refine ⟨?_, ⟨by simpa using findH_mem hk, Nat.le_refl _, by simp, by simp, fun b' hb' => ⟨k, by simpa using hb'⟩⟩⟩
        intro r a W hrel hlow hfree hF K Q hK
        obtain ⟨B, cap, hr, he⟩ := ptr_of (hrel x hx _ hev)
        obtain ⟨us, hu1, hu2⟩ := cells_of (hrel y hy _ hevy)
        have hone := litsOk_one hs1 hb3 hu1
        have hul := dL_len hu1
        have hle : off + us.length ≤ k.cs.length := by rw [hul, hb1]; exact hb2
        obtain ⟨vs, h1, h2, h3⟩ := hF.cells hr
        have hrun := run_store (P := P) W hT.info (by rw [hT.size, ← hb1, hul]) (vcells_of hu2 hone) (there_mid h3 (m := us.length) (off := off) (by rw [dL_len h1]; exact hle)) hone
        unfold Oper.wp
        have : (execOp a.eval o).run P W = .ok .skip (W.setCells B off us) := by simp [execOp, ho, he, hrun]
        rw [this]
        exact hK r undef _ (post_cells hr) rfl (by simpa using fits_cells hF hr hu1 hle)
      · cases h
  · cases h
end
end Go.Proofs.YtmlpimckfneliaaGreat.Ev
