/- A run reckoned beforehand: the single operations, more (structs, rows, numbers, comparisons). No conditions. -/
import Derived.Test.YtmlpimckfneliaaGreatEe
import Derived.Laws.StructEq
namespace Go.Proofs.YtmlpimckfneliaaGreat.Ev
def eqVs : List Value → List Value → Option Bool
  | [], [] => some true
  | .int k a :: l, .int k' b :: m => if k ≠ k' then none else match eqVs l m with
    | some r => some (a == b && r)
    | none => none
  | .bool a :: l, .bool b :: m => match eqVs l m with
    | some r => some (a == b && r)
    | none => none
  | _, _ => none
def likeV : List Value → List Value → Bool
  | [], [] => true
  | .int _ _ :: l, .int _ _ :: z => likeV l z
  | .bool _ :: l, .bool _ :: z => likeV l z
  | _, _ => false
/-- structs of numbers and truths are compared cell by cell -/
def EqLaw (P : Program) (t : Nat) (z : List Value) : Prop := P.eqGuardType P.depth t = false ∧ ∀ (xs ys : List Value) (b : Bool), eqVs xs ys = some b → likeV xs z = true → ∀ W, (Op.equalIn 10000 t (.agg xs.toArray) (.agg ys.toArray)).run P W = .ok b W
section
variable {P : Program} {s : Nat → Value} {o : Oper} {ev : EvF} {H : Hp} {n : Nat} {out : Out} {c : Cfg}
theorem run_places {W : World} : ∀ (fl : List Field) (l : List (Nat × Nat × Bool)), fl.length = l.length →
    (∀ (j off sz : Nat) (ag : Bool), l[j]? = some (off, sz, ag) → ∃ f i d, fl[j]? = some f ∧ f.offset = off ∧ P.info? f.type = some i ∧ i.size = sz ∧ P.underlying f.type = some d ∧ d.isRow = ag) →
    (fl.mapM (m := Sem) fun f => Functor.map (Prod.mk f.offset) (sizeOf f.type)).run P W = .ok (l.map fun x => (x.1, x.2.1)) W
  | [], [], _, _ => by simp
  | f :: fl, (off, sz, ag) :: l, hl, h => by
    obtain ⟨f', i, d, h1, h2, h3, h4, _, _⟩ := h 0 off sz ag rfl
    simp only [List.getElem?_cons_zero, Option.some.injEq] at h1
    subst h1
    have ih := run_places (W := W) fl l (by simpa using hl) (fun j off sz ag hj => h (j + 1) off sz ag (by simpa using hj))
    simp [List.mapM_cons, run_sz h3, ih, h2, h4]
  | [], _ :: _, hl, _ => by simp at hl
  | _ :: _, [], hl, _ => by simp at hl
theorem evBuild_ok (hc : TyAll P c) (hs1 : ∀ n, (s n).oneCell' = true) {t : Nat} {ps : Array (Nat × Operand)} (ho : o.op = .build t ps) (h : evBuild c ev t ps.toList n = some out) : OpSim P s o ev n out ∧ OpStat H n out := by
  have hx : ∀ q ∈ ps.toList, q.2 ∈ o.op.operands := by
    intro q hq
    simp only [ho, Op.operands, List.mem_toArray, List.mem_map]
    exact ⟨q, hq, rfl⟩
  unfold evBuild at h
  split at h
  · rename_i ti l hti hl
    obtain ⟨d, i, z, hT⟩ := hc t ti hti
    split at h
    · rename_i cs hcs
      injection h with h
      subst h
      refine ⟨sim_pure fun r a W hrel => ?_, stat_pure⟩
      have hp := partsOf_rel (a := a) (r := r) (fun q hq => hrel q.2 (hx q hq)) hl
      have hz : z.cells.toList = ti.zero := hT.cells
      have hd0 : dL s r (ti.zero.map .lit) = some z.cells.toList := by rw [hz]; exact dL_lits _
      have hpl : (ps.map fun (x : Nat × Operand) => match x with | (i, x) => (i, a.eval x)).toList = ps.toList.map fun q => (q.1, a.eval q.2) := by simp
      unfold evBuild2 at hcs
      split at hcs
      · rename_i hk
        have hK := hT.kind
        simp only [KindOk, hk] at hK
        split at hcs
        · rename_i te hte
          obtain ⟨d', i', z', hT'⟩ := hc _ te hte
          obtain ⟨us, h1, h2⟩ := fillC_ok hs1 hp hd0 hcs
          refine ⟨.agg us.toArray, by simp [CV.d, CP.d, h1], ?_⟩
          have h2' : Instr.fill (fun i => some (i * te.size, te.size)) z.cells (ps.toList.map fun q => (q.1, a.eval q.2)) = some us.toArray := h2
          simp [execOp, ho, Instr.build, run_zero hT.info hT.zero, run_underlying hT.und, hK, run_sz hT'.info, hT'.size, h2']
        · cases hcs
      · rename_i hk
        have hK := hT.kind
        simp only [KindOk, hk] at hK
        obtain ⟨fs, hd, hfs⟩ := hK
        obtain ⟨us, h1, h2⟩ := fillC_ok hs1 hp hd0 hcs
        refine ⟨.agg us.toArray, by simp [CV.d, CP.d, h1], ?_⟩
        have hpl := run_places (P := P) (W := W) fs.toList ti.fields (by simpa using hfs.1) (by simpa using hfs.2)
        have e : (fun x => Option.map (fun (x : Nat × Nat × Bool) => (x.fst, x.snd.fst)) ti.fields[x]?) = placeF ti.fields := by
          funext j
          unfold placeF
          cases ti.fields[j]? <;> rfl
        simp [execOp, ho, Instr.build, run_zero hT.info hT.zero, run_underlying hT.und, hd, Array.mapM_eq_mapM_toList, hpl, e, h2]
      · rename_i hk
        have hK := hT.kind
        simp only [KindOk, hk] at hK
        obtain ⟨fs, hd, hfs⟩ := hK
        obtain ⟨us, h1, h2⟩ := fillC_ok hs1 hp hd0 hcs
        refine ⟨.agg us.toArray, by simp [CV.d, CP.d, h1], ?_⟩
        have hpl := run_places (P := P) (W := W) fs.toList ti.fields (by simpa using hfs.1) (by simpa using hfs.2)
        have e : (fun x => Option.map (fun (x : Nat × Nat × Bool) => (x.fst, x.snd.fst)) ti.fields[x]?) = placeF ti.fields := by
          funext j
          unfold placeF
          cases ti.fields[j]? <;> rfl
        simp [execOp, ho, Instr.build, run_zero hT.info hT.zero, run_underlying hT.und, hd, Array.mapM_eq_mapM_toList, hpl, e, h2]
      · cases hcs
    · cases h
  · cases h
def repsV : Nat → List Value → List Value
  | 0, _ => []
  | n + 1, l => l ++ repsV n l
theorem dL_reps {r : Ren} {l : List CA} {vs : List Value} (h : dL s r l = some vs) : ∀ k, dL s r (reps k l) = some (repsV k vs)
  | 0 => rfl
  | k + 1 => dL_app h (dL_reps h k)
theorem repsV_len (l : List Value) : ∀ k, (repsV k l).length = k * l.length
  | 0 => by simp [repsV]
  | k + 1 => by
    unfold repsV
    rw [List.length_append, repsV_len l k, Nat.succ_mul]
    omega
theorem repsV_get (l : List Value) : ∀ k i, i < k * l.length → (repsV k l)[i]? = l[i % l.length]?
  | 0, i, h => by simp at h
  | k + 1, i, h => by
    unfold repsV
    rcases Nat.lt_or_ge i l.length with hi | hi
    · rw [List.getElem?_append_left hi, Nat.mod_eq_of_lt hi]
    · rw [List.getElem?_append_right hi, repsV_get l k (i - l.length) (by rw [Nat.succ_mul] at h; omega), Nat.mod_eq_sub_mod hi]
theorem zero_row (z : Array Value) (k m : Nat) (hm : z.size = m) (h0 : 0 < m) : (Array.range (k * m)).map (fun i => z[i % z.size]!) = (repsV k z.toList).toArray := by
  apply Array.ext_getElem?
  intro i
  rcases Nat.lt_or_ge i (k * m) with hi | hi
  · have h1 : i % m < z.size := by rw [hm]; exact Nat.mod_lt _ h0
    rw [Array.getElem?_map, Array.getElem?_range]
    simp only [hi, if_true, Option.map_some, List.getElem?_toArray]
    rw [repsV_get _ _ _ (by simpa [hm] using hi)]
    simp only [Array.length_toList, hm, Array.getElem?_toList]
    rw [getElem!_pos z (i % m) h1, Array.getElem?_eq_getElem h1]
  · rw [Array.getElem?_eq_none (by simpa using hi)]
    simp only [List.getElem?_toArray]
    rw [List.getElem?_eq_none (by rw [repsV_len]; simpa [hm] using hi)]
theorem wrap_small (k : Nat) (h : k ≤ 4096) : IntKind.i64.wrap (Int.ofNat k) = Int.ofNat k := by
  have h' : Int.ofNat k = (k : Int) := rfl
  rw [h']
  simp [IntKind.wrap, IntKind.bits, IntKind.signed]
  omega
end
end Go.Proofs.YtmlpimckfneliaaGreat.Ev
