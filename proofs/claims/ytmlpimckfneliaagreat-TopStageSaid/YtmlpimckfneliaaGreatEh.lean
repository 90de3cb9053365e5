/- A run reckoned beforehand: the single operations, more (numbers, comparisons, places). No conditions. -/
import Derived.Test.YtmlpimckfneliaaGreatEg
namespace Go.Proofs.YtmlpimckfneliaaGreat.Ev
/-- what is asked of the rules for values that are not known -/
structure SymOk (P : Program) (s : Nat → Value) (c : Cfg) : Prop where
  one : ∀ n, (s n).oneCell' = true
  bin : ∀ op a b v, c.symB op a b = some v → ∀ (r : Ren) A B, a.d s r = some A → b.d s r = some B → ∃ V, v.d s r = some V ∧ ∀ (t : Nat) (x y : Operand) W, (do eqGuard op t x y A B; binOp op t A B : Sem Value).run P W = .ok V W
  conv : ∀ st t a v, c.symC st t a = some v → ∀ (r : Ren) A, a.d s r = some A → ∃ V, v.d s r = some V ∧ ∀ W, (convert st t A).run P W = .ok V W
section
variable {P : Program} {s : Nat → Value} {o : Oper} {ev : EvF} {H : Hp} {n : Nat} {out : Out} {c : Cfg}
theorem ints_run {op : BinOp} {k k' : IntKind} {a b : Int} {v : Value} (h : evInts op k a k' b = some v) (t : Nat) (x y : Operand) (W : World) : (do eqGuard op t x y (.int k a) (.int k' b); binOp op t (.int k a) (.int k' b) : Sem Value).run P W = .ok v W := by
  unfold evInts at h
  split at h
  · unfold shI at h
    split at h
    · cases h
    · rename_i hb
      injection h with h
      subst h
      simp [eqGuard, binOp, Op.shift, hb]
  · unfold shI at h
    split at h
    · cases h
    · rename_i hb
      injection h with h
      subst h
      simp [eqGuard, binOp, Op.shift, hb]
  · split at h
    · rename_i hk
      subst hk
      cases op <;> simp only [binI] at h <;> try (injection h with h; subst h; simp [eqGuard, binOp, Op.intArith, Op.intBits, Op.intCmp])
      · split at h
        · cases h
        · rename_i hb
          injection h with h
          subst h
          simp [eqGuard, binOp, Op.intDiv, hb]
      · split at h
        · cases h
        · rename_i hb
          injection h with h
          subst h
          simp [eqGuard, binOp, Op.intDiv, hb]
      all_goals cases h
    · cases h
theorem eqOf_some {op : BinOp} {b : Option Bool} {v : Value} (h : eqOf op b = some v) : ∃ r, b = some r ∧ ((op = .eql ∧ v = .bool r) ∨ (op = .neq ∧ v = .bool (!r))) := by
  unfold eqOf at h
  split at h
  · injection h with h
    exact ⟨_, rfl, .inl ⟨rfl, h.symm⟩⟩
  · injection h with h
    exact ⟨_, rfl, .inr ⟨rfl, h.symm⟩⟩
  · cases h
/-- where the two are no two numbers, no structs -/
theorem eq_run {op : BinOp} {A B : Value} {r : Bool} {v : Value} {t : Nat} {x y : Operand} {W : World} (hv : (op = .eql ∧ v = .bool r) ∨ (op = .neq ∧ v = .bool (!r))) (he : ∀ dd, (Op.equalIn (dd + 1 + 1) t A B).run P W = .ok r W)
    (hg : ∀ op, op = .eql ∨ op = .neq → eqGuard op t x y A B = pure ()) (h1 : binOp .eql t A B = (do pure (.bool (← Op.equal t A B)))) (h2 : binOp .neq t A B = (do pure (.bool (!(← Op.equal t A B))))) :
    (do eqGuard op t x y A B; binOp op t A B : Sem Value).run P W = .ok v W := by
  have he' : (Op.equal t A B).run P W = .ok r W := he 9998
  rw [Sem.run_bind]
  rcases hv with ⟨rfl, rfl⟩ | ⟨rfl, rfl⟩
  · rw [hg _ (.inl rfl), Sem.run_pure, Result.andThen_ok, h1, Sem.run_bind, he', Result.andThen_ok, Sem.run_pure]
  · rw [hg _ (.inr rfl), Sem.run_pure, Result.andThen_ok, h2, Sem.run_bind, he', Result.andThen_ok, Sem.run_pure]
theorem guard_nil {op : BinOp} {t : Nat} {x y : Operand} (h : (isConst x || isConst y) = true) (ho : op = .eql ∨ op = .neq) : eqGuard op t x y .nilIface .nilIface = pure () := by
  rcases ho with rfl | rfl
  · cases x with
    | const u => rfl
    | _ => cases y with
      | const u => rfl
      | _ => cases h
  · cases x with
    | const u => rfl
    | _ => cases y with
      | const u => rfl
      | _ => cases h
section
variable {W : World} {t : TypeId} {dd : Nat}
theorem eq_i1 {ms : Array (String × TypeId)} (h : P.underlying t = some (.interface ms)) : (Op.equalIn (dd + 1) t .nilIface .nilIface).run P W = .ok true W := by
  simp only [Op.equalIn, Sem.run_bind, run_underlying h, Result.andThen_ok, Sem.run_pure]
theorem eq_i2 {ms : Array (String × TypeId)} {u : TypeId} {w : Value} (h : P.underlying t = some (.interface ms)) : (Op.equalIn (dd + 1) t .nilIface (.iface u w)).run P W = .ok false W := by
  simp only [Op.equalIn, Sem.run_bind, run_underlying h, Result.andThen_ok, Sem.run_pure]
theorem eq_i3 {ms : Array (String × TypeId)} {u : TypeId} {w : Value} (h : P.underlying t = some (.interface ms)) : (Op.equalIn (dd + 1) t (.iface u w) .nilIface).run P W = .ok false W := by
  simp only [Op.equalIn, Sem.run_bind, run_underlying h, Result.andThen_ok, Sem.run_pure]
theorem eq_i4 {ms : Array (String × TypeId)} {u u' : TypeId} {w w' : Value} (h : P.underlying t = some (.interface ms)) (hne : u ≠ u') : (Op.equalIn (dd + 1) t (.iface u w) (.iface u' w')).run P W = .ok false W := by
  simp only [Op.equalIn, Sem.run_bind, run_underlying h, Result.andThen_ok, Sem.run_pure, ne_eq, hne, not_false_eq_true, if_true]
theorem eq_i5 {ms : Array (String × TypeId)} {u : TypeId} {i : TypeInfo} {k k0 : IntKind} {a b : Int} (h : P.underlying t = some (.interface ms)) (hu : P.underlying u = some (.int k0)) (hi : P.info? u = some i) (hcmp : i.comparable = true) : (Op.equalIn (dd + 1 + 1) t (.iface u (.int k a)) (.iface u (.int k b))).run P W = .ok (a == b) W := by
  rw [Op.equalIn]
  simp only [Sem.run_bind, run_underlying h, Result.andThen_ok, ne_eq, not_true_eq_false, if_false, run_ty hi, hcmp, Bool.not_true, Bool.false_eq_true]
  simp only [Op.equalIn, Sem.run_bind, run_underlying hu, Result.andThen_ok, Sem.run_pure, if_true]
theorem eq_b {a b : Bool} (h : P.underlying t = some .bool) : (Op.equalIn (dd + 1) t (.bool a) (.bool b)).run P W = .ok (a == b) W := by
  simp only [Op.equalIn, Sem.run_bind, run_underlying h, Result.andThen_ok, Sem.run_pure]
theorem eq_p1 {e : TypeId} {q : Option Addr} (h : P.underlying t = some (.pointer e)) : (Op.equalIn (dd + 1) t (.pointer none) (.pointer q)).run P W = .ok q.isNone W := by
  simp only [Op.equalIn, Sem.run_bind, run_underlying h, Result.andThen_ok, Sem.run_pure]
theorem eq_p2 {e : TypeId} {q : Addr} (h : P.underlying t = some (.pointer e)) : (Op.equalIn (dd + 1) t (.pointer (some q)) (.pointer none)).run P W = .ok false W := by
  simp only [Op.equalIn, Sem.run_bind, run_underlying h, Result.andThen_ok, Sem.run_pure]
theorem eq_s1 {e : TypeId} {q : Option Addr} {l k l' k' : Nat} (h : P.underlying t = some (.slice e)) : (Op.equalIn (dd + 1) t (.slice none l k) (.slice q l' k')).run P W = .ok q.isNone W := by
  simp only [Op.equalIn, Sem.run_bind, run_underlying h, Result.andThen_ok, Sem.run_pure]
theorem eq_s2 {e : TypeId} {q : Addr} {l k l' k' : Nat} (h : P.underlying t = some (.slice e)) : (Op.equalIn (dd + 1) t (.slice (some q) l k) (.slice none l' k')).run P W = .ok false W := by
  simp only [Op.equalIn, Sem.run_bind, run_underlying h, Result.andThen_ok, Sem.run_pure]
theorem eq_f {a b : Array TypeId} {v : Bool} {f : Fn} {x y : Array Value} (h : P.underlying t = some (.func a b v)) : (Op.equalIn (dd + 1) t (.func f x y) .nilFunc).run P W = .ok false W := by
  simp only [Op.equalIn, Sem.run_bind, run_underlying h, Result.andThen_ok, Sem.run_pure]
end
theorem eqA_run (hc : TyAll P c) {lit : Bool} {t : Nat} {a b : CA} {q : Bool} (h : eqA c lit t a b = some q) {r : Ren} {A B : Value} (hA : a.d s r = some A) (hB : b.d s r = some B) {op : BinOp} {v : Value} (hv : (op = .eql ∧ v = .bool q) ∨ (op = .neq ∧ v = .bool (!q)))
    {x y : Operand} (hl : lit = (isConst x || isConst y)) (W : World) : (do eqGuard op t x y A B; binOp op t A B : Sem Value).run P W = .ok v W := by
  unfold eqA at h
  split at h
  · cases h
  · rename_i ti hti
    obtain ⟨d, i, z, hT⟩ := hc t ti hti
    have hK := hT.kind
    have hu := hT.und
    split at h <;> rename_i hk <;> simp only [KindOk, hk] at hK
    case h_1 =>
      obtain ⟨ms, rfl⟩ := hK
      split at h
      · rename_i hlit
        injection h with h
        subst h
        simp only [CA.d, Option.some.injEq] at hA hB
        subst hA
        subst hB
        exact eq_run hv (fun _ => eq_i1 hu) (fun op ho => guard_nil (hl ▸ hlit) ho) rfl rfl
      · cases h
    case h_4 =>
      obtain ⟨ms, rfl⟩ := hK
      simp only [CA.d, Option.some.injEq] at hA hB
      subst hA
      subst hB
      split at h
      · rename_i hne
        injection h with h
        subst h
        exact eq_run hv (fun _ => eq_i4 hu hne) (by rintro op (rfl | rfl) <;> rfl) rfl rfl
      · rename_i heq
        split at h
        · rename_i tj htj
          split at h
          · rename_i hkk
            injection h with h
            subst h
            obtain ⟨d', i', z', hT'⟩ := hc _ tj htj
            have hK' := hT'.kind
            simp only [KindOk, hkk.1] at hK'
            obtain ⟨k0, rfl⟩ := hK'
            have heq := Decidable.of_not_not heq
            have hkk2 := hkk.2
            subst heq
            subst hkk2
            exact eq_run hv (fun _ => eq_i5 hu hT'.und hT'.info (hT'.cmp hkk.1)) (by rintro op (rfl | rfl) <;> rfl) rfl rfl
          · cases h
        · cases h
    case h_15 => cases h
    all_goals
      injection h with h
      subst h
      first
        | (simp only [CA.d, Option.some.injEq] at hA hB; subst hA; subst hB)
        | (simp only [CA.d, Option.some.injEq] at hA; subst hA; obtain ⟨_, _, rfl⟩ := Option.map_eq_some_iff.1 hB)
        | (simp only [CA.d, Option.some.injEq] at hB; subst hB; obtain ⟨_, _, rfl⟩ := Option.map_eq_some_iff.1 hA)
    · obtain ⟨ms, rfl⟩ := hK
      exact eq_run hv (fun _ => eq_i2 hu) (by rintro op (rfl | rfl) <;> rfl) rfl rfl
    · obtain ⟨ms, rfl⟩ := hK
      exact eq_run hv (fun _ => eq_i3 hu) (by rintro op (rfl | rfl) <;> rfl) rfl rfl
    · subst hK
      exact eq_run hv (fun _ => eq_b hu) (by rintro op (rfl | rfl) <;> rfl) rfl rfl
    · obtain ⟨e, rfl⟩ := hK
      exact eq_run hv (fun _ => eq_p1 hu) (by rintro op (rfl | rfl) <;> rfl) rfl rfl
    · obtain ⟨e, rfl⟩ := hK
      exact eq_run hv (fun _ => eq_p1 hu) (by rintro op (rfl | rfl) <;> rfl) rfl rfl
    · obtain ⟨e, rfl⟩ := hK
      exact eq_run hv (fun _ => eq_p2 hu) (by rintro op (rfl | rfl) <;> rfl) rfl rfl
    · subst hK
      exact eq_run hv (fun _ => eq_s1 hu) (by rintro op (rfl | rfl) <;> rfl) rfl rfl
    · subst hK
      exact eq_run hv (fun _ => eq_s1 hu) (by rintro op (rfl | rfl) <;> rfl) rfl rfl
    · subst hK
      exact eq_run hv (fun _ => eq_s1 hu) (by rintro op (rfl | rfl) <;> rfl) rfl rfl
    · subst hK
      exact eq_run hv (fun _ => eq_s2 hu) (by rintro op (rfl | rfl) <;> rfl) rfl rfl
    · subst hK
      exact eq_run hv (fun _ => eq_s2 hu) (by rintro op (rfl | rfl) <;> rfl) rfl rfl
    · obtain ⟨_, _, _, rfl⟩ := hK
      exact eq_run hv (fun _ => eq_f hu) (by rintro op (rfl | rfl) <;> rfl) rfl rfl
end
end Go.Proofs.YtmlpimckfneliaaGreat.Ev
