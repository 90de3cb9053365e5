/- A run reckoned beforehand: structs of numbers and truths are compared cell by cell, by a check of their type. No conditions. -/
import Derived.Test.YtmlpimckfneliaaGreatFh
import Derived.ChangeKeysEq
namespace Go.Proofs.YtmlpimckfneliaaGreat.Ev
def fieldsE (P : Program) (chk : TypeId → List Value → Bool) : List Field → Nat → List Value → Bool
  | [], _, z => (match z with | [] => true | _ => false)
  | f :: fs, off, z => f.name != "_" && (Nat.beq f.offset off && (match P.info? f.type with
    | some i => chk f.type (z.take i.size) && (Nat.ble i.size z.length && fieldsE P chk fs (off + i.size) (z.drop i.size))
    | none => false))
def itemsE (chk : List Value → Bool) (m : Nat) : Nat → List Value → Bool
  | 0, z => (match z with | [] => true | _ => false)
  | n + 1, z => chk (z.take m) && (Nat.ble m z.length && itemsE chk m n (z.drop m))
def cellE (d : TypeDesc) (z : List Value) : Bool := match d, z with
  | .bool, [.bool _] => true
  | .int _, [.int _ _] => true
  | _, _ => false
/-- a type of numbers and truths whose first cells are such -/
def eqTB (P : Program) : Nat → TypeId → List Value → Bool
  | 0, _, _ => false
  | d + 1, t, z => (match P.info? t with
    | some i => Nat.beq i.size z.length
    | none => false) && (match P.underlying t with
    | some (.struct fs) => !P.stoodInHeld t && fieldsE P (eqTB P d) fs.toList 0 z
    | some (.array n e) => (match P.info? e with
      | some i => itemsE (eqTB P d e) i.size n z
      | none => false)
    | some d => cellE d z
    | none => false)
def toV (row : Bool) (l : List Value) : Value := if row then .agg l.toArray else l.headD undef
section
variable {P : Program}
theorem like_len : ∀ {l z : List Value}, likeV l z = true → l.length = z.length
  | [], [], _ => rfl
  | x :: a, [], h => by simp [likeV] at h
  | [], u :: z, h => by simp [likeV] at h
  | x :: a, u :: z, h => by
    unfold likeV at h
    split at h
    · rename_i heq _
      cases heq
    · rename_i heq1 heq2
      injection heq1 with q1 q2
      injection heq2 with q3 q4
      subst q2
      subst q4
      simp [like_len h]
    · rename_i heq1 heq2
      injection heq1 with q1 q2
      injection heq2 with q3 q4
      subst q2
      subst q4
      simp [like_len h]
    · cases h
theorem like_split : ∀ (n : Nat) {l z : List Value}, likeV l z = true → likeV (l.take n) (z.take n) = true ∧ likeV (l.drop n) (z.drop n) = true
  | 0, l, z, h => ⟨by cases l <;> cases z <;> rfl, h⟩
  | n + 1, [], [], _ => ⟨rfl, rfl⟩
  | n + 1, x :: a, [], h => by simp [likeV] at h
  | n + 1, [], u :: z, h => by simp [likeV] at h
  | n + 1, x :: a, u :: z, h => by
    unfold likeV at h
    split at h
    · rename_i heq _
      cases heq
    · rename_i heq1 heq2
      injection heq1 with q1 q2
      injection heq2 with q3 q4
      subst q1
      subst q2
      subst q3
      subst q4
      exact like_split n h
    · rename_i heq1 heq2
      injection heq1 with q1 q2
      injection heq2 with q3 q4
      subst q1
      subst q2
      subst q3
      subst q4
      exact like_split n h
    · cases h
theorem eqVs_len : ∀ {xs ys : List Value} {b : Bool}, eqVs xs ys = some b → xs.length = ys.length
  | [], [], _, _ => rfl
  | x :: a, [], _, h => by simp [eqVs] at h
  | [], u :: z, _, h => by simp [eqVs] at h
  | x :: a, u :: z, b, h => by
    unfold eqVs at h
    split at h
    · rename_i heq _
      cases heq
    · rename_i heq1 heq2
      injection heq1 with q1 q2
      injection heq2 with q3 q4
      subst q2
      subst q4
      split at h
      · cases h
      · split at h
        · rename_i hr
          simp [eqVs_len hr]
        · cases h
    · rename_i heq1 heq2
      injection heq1 with q1 q2
      injection heq2 with q3 q4
      subst q2
      subst q4
      split at h
      · rename_i hr
        simp [eqVs_len hr]
      · cases h
    · cases h
theorem eqVs_split : ∀ (n : Nat) {xs ys : List Value} {b : Bool}, eqVs xs ys = some b → ∃ b1 b2, eqVs (xs.take n) (ys.take n) = some b1 ∧ eqVs (xs.drop n) (ys.drop n) = some b2 ∧ b = (b1 && b2)
  | 0, xs, ys, b, h => ⟨true, b, by cases xs <;> cases ys <;> rfl, h, by simp⟩
  | n + 1, [], [], b, h => ⟨true, b, rfl, h, by simp⟩
  | n + 1, x :: a, [], _, h => by simp [eqVs] at h
  | n + 1, [], u :: z, _, h => by simp [eqVs] at h
  | n + 1, x :: a, u :: z, b, h => by
    unfold eqVs at h
    split at h
    · rename_i heq _
      cases heq
    · rename_i k i l k' j m heq1 heq2
      injection heq1 with q1 q2
      injection heq2 with q3 q4
      subst q1
      subst q2
      subst q3
      subst q4
      split at h
      · cases h
      · rename_i hk
        split at h
        · rename_i r hr
          injection h with h
          obtain ⟨b1, b2, h1, h2, h3⟩ := eqVs_split n hr
          refine ⟨i == j && b1, b2, ?_, h2, by rw [← h, h3, Bool.and_assoc]⟩
          simp only [List.take_succ_cons]
          unfold eqVs
          rw [if_neg hk, h1]
        · cases h
    · rename_i i l j m heq1 heq2
      injection heq1 with q1 q2
      injection heq2 with q3 q4
      subst q1
      subst q2
      subst q3
      subst q4
      split at h
      · rename_i r hr
        injection h with h
        obtain ⟨b1, b2, h1, h2, h3⟩ := eqVs_split n hr
        refine ⟨i == j && b1, b2, ?_, h2, by rw [← h, h3, Bool.and_assoc]⟩
        simp only [List.take_succ_cons]
        unfold eqVs
        rw [h1]
      · cases h
    · cases h
theorem like_b {xs : List Value} {q : Bool} (h : likeV xs [.bool q] = true) : ∃ a, xs = [.bool a] := by
  cases xs with
  | nil => simp [likeV] at h
  | cons x l =>
    have hl := like_len h
    cases l with
    | cons y l => simp at hl
    | nil =>
      cases x with
      | bool a => exact ⟨a, rfl⟩
      | _ => simp [likeV] at h
theorem like_i {xs : List Value} {k : IntKind} {q : Int} (h : likeV xs [.int k q] = true) : ∃ k a, xs = [.int k a] := by
  cases xs with
  | nil => simp [likeV] at h
  | cons x l =>
    have hl := like_len h
    cases l with
    | cons y l => simp at hl
    | nil =>
      cases x with
      | int k a => exact ⟨k, a, rfl⟩
      | _ => simp [likeV] at h
theorem eq_bb {a b : Bool} {ys : List Value} (h : eqVs [.bool a] ys = some b) : ∃ c, ys = [.bool c] ∧ b = (a == c) := by
  have hl := eqVs_len h
  cases ys with
  | nil => simp at hl
  | cons y l =>
    cases l with
    | cons z l => simp at hl
    | nil =>
      cases y with
      | bool c =>
        refine ⟨c, rfl, ?_⟩
        simp [eqVs] at h
        exact h.symm
      | _ => simp [eqVs] at h
theorem eq_ii {k : IntKind} {a : Int} {b : Bool} {ys : List Value} (h : eqVs [.int k a] ys = some b) : ∃ c, ys = [.int k c] ∧ b = (a == c) := by
  have hl := eqVs_len h
  cases ys with
  | nil => simp at hl
  | cons y l =>
    cases l with
    | cons z l => simp at hl
    | nil =>
      cases y with
      | int k' c =>
        by_cases hk : k = k'
        · subst hk
          refine ⟨c, rfl, ?_⟩
          simp [eqVs] at h
          exact h.symm
        · simp [eqVs, hk] at h
      | _ => simp [eqVs] at h
structure EqC (P : Program) (dd : Nat) (t : TypeId) (z : List Value) (row : Bool) : Prop where
  und : ∃ d, P.underlying t = some d ∧ d.isRow = row
  one : row = false → z.length = 1
  eq : ∀ xs ys b W, eqVs xs ys = some b → likeV xs z = true → (Op.equalIn dd t (toV row xs) (toV row ys)).run P W = .ok b W
theorem run_part {t : TypeId} {d : TypeDesc} {i : TypeInfo} (hd : P.underlying t = some d) (hi : P.info? t = some i) {cs : List Value} {off : Nat} (h1 : d.isRow = false → i.size = 1) (hl : off + i.size ≤ cs.length) (W : World) : (part t cs.toArray off).run P W = .ok (toV d.isRow ((cs.drop off).take i.size)) W := by
  unfold part
  rw [Sem.run_bind, run_isAgg hd, Result.andThen_ok]
  cases hr : d.isRow with
  | true =>
    simp only [if_true]
    rw [Sem.run_bind, run_sz hi, Result.andThen_ok, Sem.run_pure]
    simp [toV]
  | false =>
    have h2 := h1 hr
    have hlt : off < cs.length := by omega
    have : cs.toArray[off]? = some cs[off] := by simp [hlt]
    simp only [Bool.false_eq_true, if_false, this]
    rw [Sem.run_pure, h2]
    have e : (cs.drop off).take 1 = [cs[off]] := by
      rw [List.drop_eq_getElem_cons hlt]
      rfl
    rw [e]
    rfl
theorem fields_run {dd : Nat} {chk : TypeId → List Value → Bool} (hchk : ∀ t z, chk t z = true → ∃ row i, EqC P dd t z row ∧ P.info? t = some i ∧ i.size = z.length) : ∀ {fs : List Field} {off : Nat} {z : List Value}, fieldsE P chk fs off z = true →
    ∀ (xs ys : List Value) (b : Bool) (W : World), eqVs (xs.drop off) (ys.drop off) = some b → likeV (xs.drop off) z = true → off ≤ xs.length → off ≤ ys.length → (Op.eqFields dd xs.toArray ys.toArray fs).run P W = .ok b W
  | [], off, z, h, xs, ys, b, W, he, hl, _, _ => by
    have hz : z = [] := by
      unfold fieldsE at h
      split at h
      · rfl
      · cases h
    subst hz
    have h0 := like_len hl
    have h1 : xs.drop off = [] := List.eq_nil_of_length_eq_zero h0
    have h2 := eqVs_len he
    have h3 : ys.drop off = [] := List.eq_nil_of_length_eq_zero (by rw [← h2]; exact h0)
    rw [h1, h3] at he
    injection he with he
    subst he
    simp [Op.eqFields]
  | f :: fs, off, z, h, xs, ys, b, W, he, hl, hx, hy => by
    unfold fieldsE at h
    simp only [Bool.and_eq_true] at h
    obtain ⟨h1, h2, h3⟩ := h
    split at h3
    · rename_i i hi
      simp only [Bool.and_eq_true] at h3
      obtain ⟨h4, h5, h6⟩ := h3
      have h5 := Nat.le_of_ble_eq_true h5
      obtain ⟨row, i', hE, hi', hsz⟩ := hchk _ _ h4
      rw [hi] at hi'
      injection hi' with hi'
      subst hi'
      obtain ⟨d, hd, hrow⟩ := hE.und
      have hz := like_len hl
      have hye := eqVs_len he
      simp only [List.length_drop] at hz hye
      have hone : d.isRow = false → i.size = 1 := fun hr => by rw [hsz]; exact hE.one (by rw [← hrow]; exact hr)
      obtain ⟨b1, b2, q1, q2, q3⟩ := eqVs_split i.size he
      obtain ⟨l1, l2⟩ := like_split i.size hl
      have p1 := run_part hd hi (cs := xs) (off := off) hone (by omega) W
      have p2 := run_part hd hi (cs := ys) (off := off) hone (by omega) W
      have hoff : f.offset = off := Nat.eq_of_beq_eq_true h2
      have hname : f.name ≠ "_" := by simpa using h1
      rw [hrow] at p1 p2
      have p3 := hE.eq _ _ _ W q1 l1
      have p4 := fields_run hchk h6 xs ys b2 W (by rw [← List.drop_drop, ← List.drop_drop]; exact q2) (by rw [← List.drop_drop]; exact l2) (by omega) (by omega)
      simp only [Op.eqFields, hname, ne_eq, not_false_eq_true, if_true, Sem.run_bind, hoff, p1, p2, p3, Result.andThen_ok]
      rw [q3]
      cases b1
      · simp
      · simpa using p4
    · cases h3
theorem items_run {dd : Nat} {e : TypeId} {i : TypeInfo} {chk : List Value → Bool} (hi : P.info? e = some i) (hchk : ∀ z, chk z = true → ∃ row, EqC P dd e z row ∧ i.size = z.length) : ∀ (n k : Nat) {z : List Value}, itemsE chk i.size n z = true →
    ∀ (xs ys : List Value) (b : Bool) (W : World), eqVs (xs.drop (k * i.size)) (ys.drop (k * i.size)) = some b → likeV (xs.drop (k * i.size)) z = true → k * i.size ≤ xs.length → k * i.size ≤ ys.length → (Op.eqItems dd e i.size xs.toArray ys.toArray (List.range' k n)).run P W = .ok b W
  | 0, k, z, h, xs, ys, b, W, he, hl, _, _ => by
    have hz : z = [] := by
      unfold itemsE at h
      split at h
      · rfl
      · cases h
    subst hz
    have h0 := like_len hl
    have h1 : xs.drop (k * i.size) = [] := List.eq_nil_of_length_eq_zero h0
    have h2 := eqVs_len he
    have h3 : ys.drop (k * i.size) = [] := List.eq_nil_of_length_eq_zero (by rw [← h2]; exact h0)
    rw [h1, h3] at he
    injection he with he
    subst he
    simp [Op.eqItems]
  | n + 1, k, z, h, xs, ys, b, W, he, hl, hx, hy => by
    unfold itemsE at h
    simp only [Bool.and_eq_true] at h
    obtain ⟨h4, h5, h6⟩ := h
    have h5 := Nat.le_of_ble_eq_true h5
    obtain ⟨row, hE, hsz⟩ := hchk _ h4
    obtain ⟨d, hd, hrow⟩ := hE.und
    have hz := like_len hl
    have hye := eqVs_len he
    simp only [List.length_drop] at hz hye
    have hone : d.isRow = false → i.size = 1 := fun hr => by rw [hsz]; exact hE.one (by rw [← hrow]; exact hr)
    obtain ⟨b1, b2, q1, q2, q3⟩ := eqVs_split i.size he
    obtain ⟨l1, l2⟩ := like_split i.size hl
    have p1 := run_part hd hi (cs := xs) (off := k * i.size) hone (by omega) W
    have p2 := run_part hd hi (cs := ys) (off := k * i.size) hone (by omega) W
    rw [hrow] at p1 p2
    have p3 := hE.eq _ _ _ W q1 l1
    have hk : (k + 1) * i.size = k * i.size + i.size := by rw [Nat.succ_mul]
    have p4 := items_run hi hchk n (k + 1) h6 xs ys b2 W (by rw [hk, ← List.drop_drop, ← List.drop_drop]; exact q2) (by rw [hk, ← List.drop_drop]; exact l2) (by omega) (by omega)
    rw [List.range'_succ]
    simp only [Op.eqItems, Sem.run_bind, p1, p2, p3, Result.andThen_ok]
    rw [q3]
    cases b1
    · simp
    · simpa using p4
theorem eqTB_ok : ∀ (m dd : Nat) (t : TypeId) (z : List Value), eqTB P m t z = true → ∃ row i, EqC P (dd + m) t z row ∧ P.info? t = some i ∧ i.size = z.length
  | 0, _, _, _, h => by cases h
  | m + 1, dd, t, z, h => by
    unfold eqTB at h
    rw [Bool.and_eq_true] at h
    obtain ⟨h1, h2⟩ := h
    split at h1
    · rename_i i hi
      have h1 := Nat.eq_of_beq_eq_true h1
      cases hu : P.underlying t with
      | none => rw [hu] at h2; cases h2
      | some d =>
        rw [hu] at h2
        cases d with
        | struct fs =>
          simp only [Bool.and_eq_true, Bool.not_eq_true'] at h2
          refine ⟨true, i, ⟨⟨_, hu, rfl⟩, (fun e => by cases e), fun xs ys b W he hl => ?_⟩, hi, h1⟩
          have hf : P.fieldsOf t = fs := by simp [Program.fieldsOf, hu]
          show (Op.equalIn ((dd + m) + 1) t (.agg xs.toArray) (.agg ys.toArray)).run P W = _
          rw [run_equalIn_struct W (dd + m) t _ _ (by rw [hf]; exact hu) h2.1, hf]
          exact fields_run (fun t z hz => eqTB_ok m dd t z hz) h2.2 xs ys b W (by simpa using he) (by simpa using hl) (Nat.zero_le _) (Nat.zero_le _)
        | array n e =>
          simp only at h2
          split at h2
          · rename_i j hj
            refine ⟨true, i, ⟨⟨_, hu, rfl⟩, (fun e => by cases e), fun xs ys b W he hl => ?_⟩, hi, h1⟩
            show (Op.equalIn ((dd + m) + 1) t (.agg xs.toArray) (.agg ys.toArray)).run P W = _
            rw [run_equalIn_array W (dd + m) _ _ hu hj, show P.cellsOf e = j.size from by simp [Program.cellsOf, hj], List.range_eq_range']
            refine items_run (dd := dd + m) (chk := eqTB P m e) hj (fun z hz => ?_) n 0 h2 xs ys b W (by simpa using he) (by simpa using hl) (by omega) (by omega)
            obtain ⟨row, i', q1, q2, q3⟩ := eqTB_ok m dd e z hz
            rw [hj] at q2
            injection q2 with q2
            exact ⟨row, q1, by rw [q2]; exact q3⟩
          · cases h2
        | bool =>
          simp only at h2
          unfold cellE at h2
          split at h2
          · refine ⟨false, i, ⟨⟨_, hu, rfl⟩, fun _ => rfl, fun xs ys b W he hl => ?_⟩, hi, h1⟩
            obtain ⟨a, rfl⟩ := like_b hl
            obtain ⟨c, rfl, rfl⟩ := eq_bb he
            exact run_equalIn_bool' W (dd + m) t a c hu
          · rename_i heq _
            cases heq
          · cases h2
        | int k =>
          simp only at h2
          unfold cellE at h2
          split at h2
          · rename_i heq _
            cases heq
          · refine ⟨false, i, ⟨⟨_, hu, rfl⟩, fun _ => rfl, fun xs ys b W he hl => ?_⟩, hi, h1⟩
            obtain ⟨k', a, rfl⟩ := like_i hl
            obtain ⟨c, rfl, rfl⟩ := eq_ii he
            exact run_equalIn_int W (dd + m) t k' k a c hu
          · cases h2
        | _ => cases h2
    · cases h1
/-- all types of a table that are compared so -/
def eqB (P : Program) (t : Nat) (ti : TI) : Bool := match ti.kind with
  | 8 => !P.eqGuardType P.depth t && (eqTB P 20 t ti.zero && (match P.underlying t with
    | some d => d.isRow
    | none => false))
  | _ => true
theorem eqB_ok {t : Nat} {ti : TI} (h : eqB P t ti = true) (hk : ti.kind = 8) : EqLaw P t ti.zero := by
  unfold eqB at h
  rw [hk] at h
  simp only [Bool.and_eq_true, Bool.not_eq_true'] at h
  obtain ⟨h1, h2, h3⟩ := h
  refine ⟨h1, fun xs ys b he hl W => ?_⟩
  obtain ⟨row, i, hE, _, _⟩ := eqTB_ok 20 9980 t ti.zero h2
  obtain ⟨d, hd, hr⟩ := hE.und
  rw [hd] at h3
  have := hE.eq xs ys b W he hl
  rw [← hr, show d.isRow = true from h3] at this
  exact this
theorem eqs_ok {c : Cfg} {T : Bt TI} (hc : c.ty = T.get) (h : T.all (eqB P) = true) : ∀ t ti, c.ty t = some ti → ti.kind = 8 → EqLaw P t ti.zero := fun t ti ht hk => by
  rw [hc] at ht
  exact eqB_ok (Bt.get_all h ht) hk
end
end Go.Proofs.YtmlpimckfneliaaGreat.Ev
