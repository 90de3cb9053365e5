/- A run reckoned beforehand: the single operations, more (rows, numbers, comparisons). No conditions. -/
import Derived.Test.YtmlpimckfneliaaGreatEf
namespace Go.Proofs.YtmlpimckfneliaaGreat.Ev
section
variable {P : Program} {s : Nat → Value} {o : Oper} {ev : EvF} {H : Hp} {n : Nat} {out : Out} {c : Cfg}
theorem evBSlice_ok (hc : TyAll P c) (hs1 : ∀ n, (s n).oneCell' = true) {t len : Nat} {ps : Array (Nat × Operand)} (ho : o.op = .buildSlice t len ps) (h : evBSlice c ev t len ps.toList n = some out) : OpSim P s o ev n out ∧ OpStat H n out := by
  have hx : ∀ q ∈ ps.toList, q.2 ∈ o.op.operands := by
    intro q hq
    simp only [ho, Op.operands, List.mem_toArray, List.mem_map]
    exact ⟨q, hq, rfl⟩
  unfold evBSlice at h
  split at h
  · rename_i ti l hti hl
    obtain ⟨d, i, z, hT⟩ := hc t ti hti
    split at h
    · rename_i te hk hte
      obtain ⟨d', i', z', hT'⟩ := hc _ te hte
      have hK := hT.kind
      simp only [KindOk, hk] at hK
      unfold evBSlice2 at h
      split at h
      · cases h
      · rename_i hcond
        split at h
        · rename_i cs hcs
          injection h with h
          subst h
          have hz' : z'.cells.toList = te.zero := hT'.cells
          have hzs : z'.cells.size = te.size := by rw [← hT'.zlen, ← hz']; simp
          have h0 : 0 < te.size := by omega
          refine ⟨sim_new (va := .sl n 0 len len) 0 fun r a W hrel => ?_, stat_new⟩
          have hp := partsOf_rel (a := a) (r := r) (fun q hq => hrel q.2 (hx q hq)) hl
          have hd0 : dL s r (reps len (te.zero.map .lit)) = some (repsV len z'.cells.toList).toArray.toList := by
            rw [hz']
            exact dL_reps (dL_lits _) len
          obtain ⟨us, h1, h2⟩ := fillC_ok hs1 hp hd0 hcs
          refine ⟨us, .slice (some ⟨W.heap.size, 0, none⟩) len len, h1, by simp [CA.d, nam_at], ?_⟩
          have h2' : Instr.fill (fun i => some (i * te.size, te.size)) (repsV len z'.cells.toList).toArray (ps.toList.map fun q => (q.1, a.eval q.2)) = some us.toArray := h2
          have hrow := zero_row z'.cells len te.size hzs h0
          rw [← hrow] at h2'
          have hbig : ¬ (16777216 < len * te.size) := by
            intro hh
            exact hcond (.inl hh)
          by_cases hl0 : len * te.size = 0
          · have hr0 : Array.range 0 = #[] := rfl
            simp only [hl0, hr0, List.map_toArray, List.map_nil] at h2'
            simp [execOp, ho, Instr.buildSlice, run_underlying hT.und, hK, run_sz hT'.info, hT'.size, hl0, hr0, newRow, h2']
          · simp [execOp, ho, Instr.buildSlice, run_underlying hT.und, hK, run_sz hT'.info, hT'.size, hl0, hbig, run_zero hT'.info hT'.zero, newRow, h2']
        · cases h
    · cases h
  · cases h
theorem evMSlice_ok (hc : TyAll P c) {t : Nat} {x y : Operand} (ho : o.op = .makeSlice t x y) (h : evMSlice c ev t x y n = some out) : OpSim P s o ev n out ∧ OpStat H n out := by
  have hx : x ∈ o.op.operands := by simp [ho, Op.operands]
  have hy : y ∈ o.op.operands := by simp [ho, Op.operands]
  unfold evMSlice at h
  split at h
  · rename_i ti k1 l k2 k hti hevx hevy
    obtain ⟨d, i, z, hT⟩ := hc t ti hti
    split at h
    · rename_i te hk hte
      obtain ⟨d', i', z', hT'⟩ := hc _ te hte
      have hK := hT.kind
      simp only [KindOk, hk] at hK
      split at h
      · cases h
      · rename_i hcond
        injection h with h
        subst h
        have hz' : z'.cells.toList = te.zero := hT'.cells
        have hzs : z'.cells.size = te.size := by rw [← hT'.zlen, ← hz']; simp
        have h0 : 0 < te.size := by omega
        have hkl : l ≤ k := by omega
        have hk4 : k ≤ 4096 := by omega
        have hb4 : te.bytes ≤ 4096 := by omega
        refine ⟨sim_new (va := .sl n 0 l k) 0 fun r a W hrel => ?_, stat_new⟩
        have ex := lit_of (hrel x hx _ hevx)
        have ey := lit_of (hrel y hy _ hevy)
        refine ⟨repsV k z'.cells.toList, .slice (some ⟨W.heap.size, 0, none⟩) l k, by rw [hz']; exact dL_reps (dL_lits _) k, by simp [CA.d, nam_at], ?_⟩
        have hrow := zero_row z'.cells k te.size hzs h0
        have w1 := wrap_small l (by omega)
        have w2 := wrap_small k hk4
        have hbytes : te.bytes * k ≤ 4096 * 4096 := Nat.mul_le_mul hb4 hk4
        have hbi : ¬ ((281474976710656 : Int) < (te.bytes : Int) * (k : Int)) := by
          have : ((te.bytes * k : Nat) : Int) ≤ ((4096 * 4096 : Nat) : Int) := Int.ofNat_le.2 hbytes
          simp only [Int.natCast_mul] at this
          omega
        have w1' : IntKind.i64.wrap (l : Int) = (l : Int) := w1
        have w2' : IntKind.i64.wrap (k : Int) = (k : Int) := w2
        by_cases hk0 : k = 0
        · subst hk0
          have hl0 : l = 0 := by omega
          subst hl0
          simp at w1'
          simp [execOp, ho, ex, ey, Instr.makeSlice, run_underlying hT.und, hK, run_ty hT'.info, asInt, asIntOf, w1', run_sz hT'.info, newRow, repsV, show Array.range 0 = #[] from rfl]
        · have hn0 : k * te.size ≠ 0 := by
            intro e
            rcases Nat.mul_eq_zero.1 e with e | e <;> omega
          have hb1 : ¬ ((k : Int) < 0) := by omega
          have hb2 : ¬ ((l : Int) < 0) := by omega
          have hb3 : ¬ (k < l) := by omega
          simp [execOp, ho, ex, ey, Instr.makeSlice, run_underlying hT.und, hK, run_ty hT'.info, hT'.bytes, asInt, asIntOf, w1', w2', hbi, run_sz hT'.info, hT'.size, newRow, run_zero hT'.info hT'.zero, hrow, hn0, hb1, hb2, hb3]
    · cases h
  · cases h
theorem evNil_ok {x : Operand} (ho : o.op = .nilCheck x) (h : evNil ev x n = some out) : OpSim P s o ev n out ∧ OpStat H n out := by
  have hx : x ∈ o.op.operands := by simp [ho, Op.operands]
  unfold evNil at h
  split at h
  · rename_i b off hev
    injection h with h
    subst h
    refine ⟨sim_pure fun r a W hrel => ?_, stat_pure⟩
    have hd := hrel x hx _ hev
    obtain ⟨B, cap, hr, he⟩ := ptr_of hd
    exact ⟨_, hd, by simp [execOp, ho, he]⟩
  · rename_i f l hev
    injection h with h
    subst h
    refine ⟨sim_pure fun r a W hrel => ?_, stat_pure⟩
    have hd := hrel x hx _ hev
    obtain ⟨vs, _, he⟩ := Option.map_eq_some_iff.1 hd
    exact ⟨_, hd, by simp [execOp, ho, ← he]⟩
  · cases h
theorem evUn_ok {op : UnOp} {t : TypeId} {x : Operand} (ho : o.op = .unOp op t x) (h : evUn1 ev op x n = some out) : OpSim P s o ev n out ∧ OpStat H n out := by
  have hx : x ∈ o.op.operands := by simp [ho, Op.operands]
  unfold evUn1 at h
  split at h
  · rename_i v hev
    split at h
    · rename_i u hu
      injection h with h
      subst h
      refine ⟨sim_pure fun r a W hrel => ?_, stat_pure⟩
      have hd := hrel x hx _ hev
      unfold evUn at hu
      split at hu
      · injection hu with hu
        subst hu
        have he := lit_of hd
        exact ⟨_, lv_d _, by simp [execOp, ho, he, Op.unary, Op.intArith]⟩
      · injection hu with hu
        subst hu
        have he := lit_of hd
        exact ⟨_, lv_d _, by simp [execOp, ho, he, Op.unary]⟩
      · cases hu
    · cases h
  · cases h
theorem evMkF_ok {f : FuncId} {first caps : Array Operand} (ho : o.op = .makeFunc (.func f) first caps) (h : evMkF ev f first.toList caps.toList n = some out) : OpSim P s o ev n out ∧ OpStat H n out := by
  have hx : ∀ x ∈ caps.toList, x ∈ o.op.operands := by
    intro x hx
    simp [ho, Op.operands]
    exact .inr (by simpa using hx)
  unfold evMkF at h
  split at h
  · rename_i l hf hl
    split at h
    · rename_i ps hps
      injection h with h
      subst h
      refine ⟨sim_pure fun r a W hrel => ?_, stat_pure⟩
      have hfirst : first = #[] := by
        apply Array.ext'
        simpa using hf
      have key : ∀ (ops : List Operand) (l : List CV) (ps : List (Nat × Nat)), (∀ x ∈ ops, Rl s r ev a x) → argsOf ev ops = some l → capsOf l = some ps → dPtr r ps = some (ops.map a.eval) := by
        intro ops
        induction ops with
        | nil =>
          intro l ps _ h1 h2
          injection h1 with h1
          subst h1
          injection h2 with h2
          subst h2
          rfl
        | cons x ops ih =>
          intro l ps hr h1 h2
          unfold argsOf at h1
          split at h1
          · rename_i v hv
            split at h1
            · rename_i l' hl'
              injection h1 with h1
              subst h1
              unfold capsOf at h2
              split at h2
              · rename_i heq
                cases heq
              · rename_i b off l'' heq
                injection heq with e1 e2
                subst e1
                subst e2
                split at h2
                · rename_i ps' hps'
                  injection h2 with h2
                  subst h2
                  obtain ⟨B, cap, hB, he⟩ := ptr_of (hr x (by simp) _ hv)
                  unfold dPtr
                  rw [hB, ih _ _ (fun y hy => hr y (by simp [hy])) hl' hps']
                  simp [he]
                · cases h2
              · cases h2
            · cases h1
          · cases h1
      have hd := key caps.toList l ps (fun x hx' => hrel x (hx x hx')) hl hps
      refine ⟨.func (.func f) #[] (caps.toList.map a.eval).toArray, by simp [CV.d, CP.d, CA.d, pv, hd], ?_⟩
      simp [execOp, ho, hfirst, Instr.makeFunc]
      apply Array.ext'
      simp
    · cases h
  · cases h
end
end Go.Proofs.YtmlpimckfneliaaGreat.Ev
