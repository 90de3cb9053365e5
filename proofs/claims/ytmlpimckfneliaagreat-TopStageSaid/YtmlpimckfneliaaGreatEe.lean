/- A run reckoned beforehand: the single operations, more (new blocks, parts, numbers). No conditions. -/
import Derived.Test.YtmlpimckfneliaaGreatEd
namespace Go.Proofs.YtmlpimckfneliaaGreat.Ev
section
variable {P : Program} {s : Nat → Value} {o : Oper} {ev : EvF} {H : Hp} {n : Nat} {out : Out} {c : Cfg}
abbrev TyAll (P : Program) (c : Cfg) : Prop := ∀ t ti, c.ty t = some ti → ∃ d i z, TyOk P t ti d i z
theorem dL_lits {r : Ren} : ∀ l : List Value, dL s r (l.map .lit) = some l
  | [] => rfl
  | _ :: l => dL_mk rfl (dL_lits l)
theorem evAlloc_ok (hc : TyAll P c) {t : Nat} (ho : o.op = .alloc t) (h : evAlloc c t n = some out) : OpSim P s o ev n out ∧ OpStat H n out := by
  unfold evAlloc at h
  split at h
  · rename_i ti hti
    obtain ⟨d, i, z, hT⟩ := hc t ti hti
    injection h with h
    subst h
    refine ⟨sim_new (va := .ptr n 0) 0 fun r a W _ => ⟨ti.zero, .pointer (some ⟨W.heap.size, 0, none⟩), dL_lits _, by simp [CA.d, nam_at], ?_⟩, stat_new⟩
    have hz : z.cells = ti.zero.toArray := by rw [← hT.cells]
    simp [execOp, ho, Instr.alloc, run_zero hT.info hT.zero, newVar, newRow, hz]
  · cases h
theorem evBox_ok (hs1 : ∀ n, (s n).oneCell' = true) {t : Nat} {x : Operand} (ho : o.op = .box t x) (h : evBox ev t x n = some out) : OpSim P s o ev n out ∧ OpStat H n out := by
  have hx : x ∈ o.op.operands := by simp [ho, Op.operands]
  unfold evBox at h
  split at h
  · rename_i p hev
    split at h
    · rename_i hlit
      injection h with h
      subst h
      refine ⟨sim_new (va := .ptr n 0) 0 fun r a W hrel => ?_, stat_new⟩
      obtain ⟨vs, h1, h2⟩ := cells_of (hrel x hx _ hev)
      refine ⟨vs, .pointer (some ⟨W.heap.size, 0, none⟩), h1, by simp [CA.d, nam_at], ?_⟩
      have hz : (a.eval x).cells = vs.toArray := by rw [← vcells_of h2 (litsOk_one hs1 hlit h1)]
      simp [execOp, ho, Instr.box, newVar, newRow, hz]
    · cases h
  · cases h
/-- parts as the model has them -/
def PartsRel (s : Nat → Value) (r : Ren) : List (Nat × CP) → List (Nat × Value) → Prop
  | [], [] => True
  | (i, p) :: l, (j, V) :: m => i = j ∧ (CV.p p).d s r = some V ∧ PartsRel s r l m
  | _, _ => False
theorem partsOf_rel {r : Ren} {a : Act} : ∀ {ps : List (Nat × Operand)} {l : List (Nat × CP)}, (∀ q ∈ ps, Rl s r ev a q.2) → partsOf ev ps = some l → PartsRel s r l (ps.map fun q => (q.1, a.eval q.2))
  | [], l, _, h => by injection h with h; subst h; trivial
  | (i, x) :: ps, l, hrel, h => by
    unfold partsOf at h
    split at h
    · rename_i p hp
      split at h
      · rename_i m hm
        injection h with h
        subst h
        exact ⟨rfl, hrel (i, x) (by simp) _ hp, partsOf_rel (fun q hq => hrel q (by simp [hq])) hm⟩
      · cases h
    · cases h
theorem splice_foldl : ∀ (vs : List Value) (off : Nat) (cs : Array Value), off + vs.length ≤ cs.size →
    ((vs.zipIdx 0).foldl (fun (cs : Array Value) (x : Value × Nat) => cs.setIfInBounds (off + x.2) x.1) cs).toList = cs.toList.take off ++ (vs ++ cs.toList.drop (off + vs.length)) := by
  intro vs
  suffices h : ∀ (vs : List Value) (k off : Nat) (cs : Array Value), off + k + vs.length ≤ cs.size →
      ((vs.zipIdx k).foldl (fun (cs : Array Value) (x : Value × Nat) => cs.setIfInBounds (off + x.2) x.1) cs).toList = cs.toList.take (off + k) ++ (vs ++ cs.toList.drop (off + k + vs.length)) by
    intro off cs hl
    simpa using h vs 0 off cs (by simpa using hl)
  intro vs
  induction vs with
  | nil => intro k off cs hl; simp
  | cons v vs ih =>
    intro k off cs hl
    have hoff : off + k < cs.toList.length := by simp at hl ⊢; omega
    rw [List.zipIdx_cons, List.foldl_cons, ih (k + 1) off _ (by simp at hl ⊢; omega), Array.toList_setIfInBounds]
    rw [show off + (k + 1) = off + k + 1 by omega, List.take_set, List.take_succ_eq_append_getElem hoff, List.set_append_right _ _ (by simp [List.length_take]; omega), List.drop_set_of_lt (by omega)]
    have e1 : off + k - (List.take (off + k) cs.toList).length = 0 := by simp [List.length_take]; omega
    rw [e1]
    simp only [List.set_cons_zero, List.append_assoc, List.cons_append, List.nil_append, List.length_cons]
    congr 3
    rw [show off + k + 1 + vs.length = off + k + (vs.length + 1) by omega]
theorem fillC_ok {r : Ren} (hs1 : ∀ n, (s n).oneCell' = true) {place : Nat → Option (Nat × Nat)} : ∀ {l : List (Nat × CP)} {m : List (Nat × Value)} {cs cs' : List CA} {vs : Array Value}, PartsRel s r l m → dL s r cs = some vs.toList → fillC place cs l = some cs' →
    ∃ us, dL s r cs' = some us ∧ Instr.fill place vs m = some us.toArray
  | [], [], cs, cs', vs, _, hd, h => by
    injection h with h
    subst h
    exact ⟨_, hd, by simp [Instr.fill]⟩
  | (i, p) :: l, (j, V) :: m, cs, cs', vs, hp, hd, h => by
    obtain ⟨rfl, hV, hp⟩ := hp
    unfold fillC at h
    unfold Instr.fill
    split at h
    · cases h
    · rename_i off sz hpl
      split at h
      · rename_i hb
        simp only [Bool.and_eq_true] at hb
        obtain ⟨hb1, hb2, hb3⟩ := hb
        have hb1 := Nat.eq_of_beq_eq_true hb1
        have hb2 := Nat.le_of_ble_eq_true hb2
        have hb2 : off + sz ≤ cs.length := hb2
        obtain ⟨ws, hw1, hw2⟩ := cells_of hV
        have hwl := dL_len hw1
        have hcl := dL_len hd
        have hVc := vcells_of hw2 (litsOk_one hs1 hb3 hw1)
        have hVs : V.cells.size = sz := by rw [← hb1, ← hwl, ← hVc]; simp
        have hvl : vs.size = cs.length := by rw [← hcl]; simp
        rw [hpl]
        have hcond : (decide (V.cells.size ≠ sz) || decide (off + V.cells.size > vs.size)) = false := by
          simp only [hVs, Bool.or_eq_false_iff, decide_eq_false_iff_not]
          omega
        simp only
        rw [if_neg (by simpa using (by simp [hVs]; omega : ¬ (V.cells.size ≠ sz ∨ off + V.cells.size > vs.size)))]
        refine fillC_ok hs1 hp ?_ h
        have hfold : (V.cells.zipIdx.foldl (fun cs (x : Value × Nat) => cs.setIfInBounds (off + x.2) x.1) vs).toList = vs.toList.take off ++ (ws ++ vs.toList.drop (off + ws.length)) := by
          have := splice_foldl ws off vs (by omega)
          rw [← this]
          congr 1
          have e : V.cells = ws.toArray := by rw [← hVc]
          rw [e]
          simp
        have hgoal : (V.cells.zipIdx.foldl (fun cs (x : Value × Nat) => match x with | (c, j) => cs.setIfInBounds (off + j) c) vs).toList = vs.toList.take off ++ (ws ++ vs.toList.drop (off + ws.length)) := hfold
        rw [hgoal]
        exact dL_splice off hd hw1
      · cases h
  | [], _ :: _, _, _, _, hp, _, _ => hp.elim
  | _ :: _, [], _, _, _, hp, _, _ => by cases hp
end
end Go.Proofs.YtmlpimckfneliaaGreat.Ev
