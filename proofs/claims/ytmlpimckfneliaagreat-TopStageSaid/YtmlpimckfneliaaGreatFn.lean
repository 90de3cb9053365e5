/- A run reckoned beforehand: a call matched, cell by cell, with one that was reckoned. No conditions. -/
import Derived.Test.YtmlpimckfneliaaGreatFm
namespace Go.Proofs.YtmlpimckfneliaaGreat.Ev
abbrev Nms := List (Nat × Nat)
def lkN : Nms → Nat → Option Nat
  | [], _ => none
  | p :: l, b => match Nat.beq p.1 b with
    | true => some p.2
    | false => lkN l b
def offN : Nms → Nat → Bool
  | [], _ => true
  | p :: l, c => match Nat.beq p.2 c with
    | true => false
    | false => offN l c
abbrev MK := Nms → List CA → Nat → R
def bindK (n0 n b c : Nat) (nm : Nms) (sy : List CA) (k : Nat) (K : MK) : R := match lkN nm b with
  | some c' => (match Nat.beq c' c with
    | true => K nm sy k
    | false => none)
  | none => (match Nat.blt b n0 && (Nat.blt c n && offN nm c) with
    | true => K ((b, c) :: nm) sy k
    | false => none)
noncomputable def mA (n0 n : Nat) (p a : CA) (nm : Nms) (sy : List CA) (k : Nat) (K : MK) : R := match p with
  | .lit v => (match a with
    | .lit w => (match eqZ v w with
      | true => K nm sy k
      | false => none)
    | _ => none)
  | .sym i => (match Nat.beq i k && okA a with
    | true => fcN (Nat.succ k) fun k => K nm (a :: sy) k
    | false => none)
  | .ptr b o => (match a with
    | .ptr c o' => (match Nat.beq o o' with
      | true => bindK n0 n b c nm sy k K
      | false => none)
    | _ => none)
  | .sl b o l m => (match a with
    | .sl c o' l' m' => (match Nat.beq o o' && (Nat.beq l l' && Nat.beq m m') with
      | true => bindK n0 n b c nm sy k K
      | false => none)
    | _ => none)
  | .slu b o l m => (match a with
    | .slu c o' l' m' => (match Nat.beq o o' && (Nat.beq l l' && Nat.beq m m') with
      | true => bindK n0 n b c nm sy k K
      | false => none)
    | _ => none)
  | .fn f [] => (match a with
    | .fn g [] => (match Nat.beq f g with
      | true => K nm sy k
      | false => none)
    | _ => none)
  | .fn _ _ => none
noncomputable def mLn (as : List CA) (nm : Nms) (sy : List CA) (k : Nat) (K : MK) : R := List.rec (motive := fun _ => MK → R) (fun K => K nm sy k) (fun _ _ _ _ => none) as K
noncomputable def mLc (n0 n : Nat) (p : CA) (_ : List CA) (ih : List CA → Nms → List CA → Nat → MK → R) (as : List CA) (nm : Nms) (sy : List CA) (k : Nat) (K : MK) : R := List.rec (motive := fun _ => (List CA → Nms → List CA → Nat → MK → R) → MK → R) (fun _ _ => none) (fun a as _ ih K => mA n0 n p a nm sy k fun nm sy k => ih as nm sy k K) as ih K
noncomputable def mL (n0 n : Nat) (ps : List CA) : List CA → Nms → List CA → Nat → MK → R := List.rec (motive := fun _ => List CA → Nms → List CA → Nat → MK → R) mLn (mLc n0 n) ps
noncomputable def mP (n0 n : Nat) (p a : CP) (nm : Nms) (sy : List CA) (k : Nat) (K : MK) : R := match p with
  | .one p => (match a with
    | .one a => mA n0 n p a nm sy k K
    | _ => none)
  | .ag p => (match a with
    | .ag a => mL n0 n p a nm sy k K
    | _ => none)
noncomputable def mVs (n0 n : Nat) : List CV → List CV → Nms → List CA → Nat → MK → R
  | [], [], nm, sy, k, K => K nm sy k
  | .p p :: ps, .p a :: as, nm, sy, k, K => mP n0 n p a nm sy k fun nm sy k => mVs n0 n ps as nm sy k K
  | _, _, _, _, _, _ => none
noncomputable def mB2 (n0 n : Nat) (t : Nat) (cs : List CA) (sl : Option Nat) (nm : Nms) (sy : List CA) (k : Nat) (K : CB → MK) (kb : CB) : R := CB.rec (motive := fun _ => R) (fun t' cs' sl' => match Nat.beq t t' && eqSl sl sl' with
  | true => mL n0 n cs cs' nm sy k (K ⟨t', cs', sl'⟩)
  | false => none) kb
noncomputable def mBs (n0 n : Nat) (H : Hp) : Hp → Hp → Nms → List CA → Nat → (Hp → MK) → R
  | [], rd, nm, sy, k, K => K rd nm sy k
  | (b, ⟨t, cs, sl⟩) :: l, rd, nm, sy, k, K => match lkN nm b with
    | none => none
    | some c => findK (mB2 n0 n t cs sl nm sy k fun kb nm sy k => mBs n0 n H l ((c, kb) :: rd) nm sy k K) c H
def syOf (sy : List CA) (i : Nat) : CA := (sy.reverse[i]?).getD (.lit (.int .i64 0))
def inHp (nm : Nat → Option Nat) (sy : Nat → CA) : Hp → Option Hp
  | [] => some []
  | (b, ⟨t, cs, sl⟩) :: l => match nm b, inL nm sy cs, inHp nm sy l with
    | some c, some cs, some l => some ((c, ⟨t, cs, sl⟩) :: l)
    | _, _, _ => none
def inNs (nm : Nat → Option Nat) : List Nat → Option (List Nat)
  | [] => some []
  | b :: l => match nm b, inNs nm l with
    | some c, some l => some (c :: l)
    | _, _ => none
noncomputable def mO (n0 n : Nat) (o : Out) (rd : Hp) (nm : Nms) (sy : List CA) : R := match o with
  | ⟨v, news, nx, T, U, _⟩ => match inV (nm2 (lkN nm) n0 nx n) (syOf sy) v, inHp (nm2 (lkN nm) n0 nx n) (syOf sy) news, inHp (nm2 (lkN nm) n0 nx n) (syOf sy) U, inNs (lkN nm) T with
    | some v, some news, some U, some T => frcV v fun v => frcH news fun news => frcH U fun U => fcN (Nat.add n (Nat.sub nx n0)) fun nx => some ⟨v, news, nx, T, U, rd⟩
    | _, _, _, _ => none
noncomputable def mtch (argsP : List CV) (HP : Hp) (n0 : Nat) (o : Out) (args : List CV) (H : Hp) (n : Nat) : R :=
  mVs n0 n argsP args [] [] 0 fun nm sy k => mBs n0 n H HP [] nm sy k fun rd nm sy _ => mO n0 n o rd nm sy
-- what is so of it
/-- no less is bound -/
def LeB (nm : Nms) (sy : List CA) (nm' : Nms) (sy' : List CA) : Prop := (∀ b c, lkN nm b = some c → lkN nm' b = some c) ∧ ∃ x, sy' = x ++ sy
theorem LeB.refl (nm : Nms) (sy : List CA) : LeB nm sy nm sy := ⟨fun _ _ h => h, [], rfl⟩
theorem LeB.trans {nm nm' nm2 : Nms} {sy sy' sy2 : List CA} (h : LeB nm sy nm' sy') (h' : LeB nm' sy' nm2 sy2) : LeB nm sy nm2 sy2 := by
  obtain ⟨h1, x, rfl⟩ := h
  obtain ⟨h2, y, rfl⟩ := h'
  exact ⟨fun b c hb => h2 b c (h1 b c hb), y ++ x, by simp⟩
structure OkB (n0 n : Nat) (nm : Nms) (sy : List CA) (k : Nat) : Prop where
  low : ∀ b c, lkN nm b = some c → b < n0 ∧ c < n
  inj : ∀ b b' c, lkN nm b = some c → lkN nm b' = some c → b = b'
  k : k = sy.length
  ok : ∀ a ∈ sy, okA a = true
/-- all that is bound is there -/
def DenB (s : Nat → Value) (r : Ren) (nm : Nms) (sy : List CA) : Prop := (∀ b c, lkN nm b = some c → ∃ x, r c = some x) ∧ ∀ a ∈ sy, ∃ v, a.d s r = some v
/-- what a step of the match comes to -/
structure Stp (n0 n : Nat) (In : Nms → List CA → Prop) (De : (Nat → Value) → Ren → Prop) (nm : Nms) (sy : List CA) (k : Nat) (nm' : Nms) (sy' : List CA) (k' : Nat) : Prop where
  ok : OkB n0 n nm sy k → OkB n0 n nm' sy' k'
  le : LeB nm sy nm' sy'
  eq : ∀ nf sf, k = sy.length → LeB nm' sy' nf sf → In nf sf
  den : ∀ s r, De s r → DenB s r nm sy → DenB s r nm' sy'
  len : k = sy.length → k' = sy'.length
section
variable {n0 n : Nat} {out : Out}
theorem offN_ok : ∀ {nm : Nms} {c b : Nat}, offN nm c = true → lkN nm b ≠ some c
  | [], c, b, _ => by simp [lkN]
  | p :: l, c, b, h => by
    unfold offN at h
    split at h
    · cases h
    · rename_i h1
      unfold lkN
      split
      · intro h2
        injection h2 with h2
        rw [h2, Nat.beq_refl] at h1
        cases h1
      · exact offN_ok h
theorem bindK_ok {b c k : Nat} {nm : Nms} {sy : List CA} {K : MK} (h : bindK n0 n b c nm sy k K = some out) : ∃ nm', K nm' sy k = some out ∧ lkN nm' b = some c ∧ Stp n0 n (fun _ _ => True) (fun _ r => ∃ x, r c = some x) nm sy k nm' sy k := by
  unfold bindK at h
  split at h
  · rename_i c' h1
    split at h
    · rename_i h2
      have := Nat.eq_of_beq_eq_true h2
      subst this
      exact ⟨nm, h, h1, ⟨fun h => h, LeB.refl _ _, fun _ _ _ _ => trivial, fun _ _ _ h => h, fun h => h⟩⟩
    · cases h
  · rename_i h1
    split at h
    · rename_i h2
      simp only [Bool.and_eq_true, Nat.blt_eq] at h2
      obtain ⟨h3, h4, h5⟩ := h2
      have e : lkN ((b, c) :: nm) b = some c := by
        unfold lkN
        simp
      have e' : ∀ b', b' ≠ b → lkN ((b, c) :: nm) b' = lkN nm b' := fun b' hb => by
        have : Nat.beq b b' = false := by
          cases hh : Nat.beq b b' with
          | false => rfl
          | true => exact absurd (Nat.eq_of_beq_eq_true hh).symm hb
        conv => lhs; unfold lkN
        simp only [this]
      have sub : ∀ b' c', lkN nm b' = some c' → lkN ((b, c) :: nm) b' = some c' := fun b' c' hb => by
        rw [e' b' ?_]
        · exact hb
        · intro hh
          rw [hh, h1] at hb
          cases hb
      have cas : ∀ b' c', lkN ((b, c) :: nm) b' = some c' → (b' = b ∧ c' = c) ∨ lkN nm b' = some c' := fun b' c' hb => by
        by_cases hh : b' = b
        · rw [hh, e] at hb
          injection hb with hb
          exact .inl ⟨hh, hb.symm⟩
        · rw [e' b' hh] at hb
          exact .inr hb
      refine ⟨_, h, e, ⟨fun ho => ⟨fun b' c' hb => ?_, fun b1 b2 c' g1 g2 => ?_, ho.k, ho.ok⟩, ⟨sub, [], rfl⟩, fun _ _ _ _ => trivial, fun s r hr hd => ⟨fun b' c' hb => ?_, hd.2⟩, fun h => h⟩⟩
      · rcases cas b' c' hb with ⟨rfl, rfl⟩ | hb
        · exact ⟨h3, h4⟩
        · exact ho.low b' c' hb
      · rcases cas b1 c' g1 with ⟨q1, q2⟩ | g3
        · rcases cas b2 c' g2 with ⟨q3, _⟩ | g4
          · rw [q1, q3]
          · rw [q2] at g4
            exact (offN_ok h5 g4).elim
        · rcases cas b2 c' g2 with ⟨_, q4⟩ | g4
          · rw [q4] at g3
            exact (offN_ok h5 g3).elim
          · exact ho.inj _ _ _ g3 g4
      · rcases cas b' c' hb with ⟨_, rfl⟩ | hb
        · exact hr
        · exact hd.1 b' c' hb
    · cases h
theorem syOf_get {sy sf x : List CA} {a : CA} (h : sf = x ++ a :: sy) : syOf sf sy.length = a := by
  subst h
  simp [syOf]
theorem mA_ok {p a : CA} {k : Nat} {nm : Nms} {sy : List CA} {K : MK} (h : mA n0 n p a nm sy k K = some out) : ∃ nm' sy' k', K nm' sy' k' = some out ∧ Stp n0 n (fun nf sf => inA (lkN nf) (syOf sf) p = some a) (fun s r => ∃ v, a.d s r = some v) nm sy k nm' sy' k' := by
  unfold mA at h
  split at h
  · split at h
    · split at h
      · rename_i h1
        rw [eqZ_ok h1]
        exact ⟨nm, sy, k, h, ⟨fun h => h, LeB.refl _ _, fun _ _ _ _ => rfl, fun _ _ _ h => h, fun h => h⟩⟩
      · cases h
    · cases h
  · split at h
    · rename_i i _ h1
      simp only [Bool.and_eq_true] at h1
      obtain ⟨h1, h2⟩ := h1
      have h1 := Nat.eq_of_beq_eq_true h1
      subst h1
      rw [fcN_eq] at h
      refine ⟨nm, a :: sy, _, h, ⟨fun ho => ⟨ho.low, ho.inj, by simp [ho.k], fun x hx => ?_⟩, ⟨fun _ _ h => h, [a], rfl⟩, fun nf sf hk hle => ?_, fun s r hr hd => ⟨hd.1, fun x hx => ?_⟩, fun hk => by simp [hk]⟩⟩
      · rcases List.mem_cons.1 hx with rfl | hx
        · exact h2
        · exact ho.ok x hx
      · obtain ⟨_, x, hx⟩ := hle
        show some (syOf sf i) = some a
        rw [hk, syOf_get hx]
      · rcases List.mem_cons.1 hx with rfl | hx
        · exact hr
        · exact hd.2 x hx
    · cases h
  · split at h
    · split at h
      · rename_i b o _ c o' _ h1
        have h1 := Nat.eq_of_beq_eq_true h1
        subst h1
        obtain ⟨nm', h2, h3, h4⟩ := bindK_ok h
        refine ⟨nm', sy, k, h2, ⟨h4.ok, h4.le, fun nf sf _ hle => ?_, fun s r hr => h4.den s r ?_, h4.len⟩⟩
        · simp only [inA, hle.1 b c h3]
        · obtain ⟨v, hv⟩ := hr
          obtain ⟨x, hx, _⟩ := Option.map_eq_some_iff.1 hv
          exact ⟨x, hx⟩
      · cases h
    · cases h
  · split at h
    · split at h
      · rename_i b o l m _ c o' l' m' _ h1
        simp only [Bool.and_eq_true] at h1
        obtain ⟨h1, h5, h6⟩ := h1
        have h1 := Nat.eq_of_beq_eq_true h1
        have h5 := Nat.eq_of_beq_eq_true h5
        have h6 := Nat.eq_of_beq_eq_true h6
        subst h1
        subst h5
        subst h6
        obtain ⟨nm', h2, h3, h4⟩ := bindK_ok h
        refine ⟨nm', sy, k, h2, ⟨h4.ok, h4.le, fun nf sf _ hle => ?_, fun s r hr => h4.den s r ?_, h4.len⟩⟩
        · simp only [inA, hle.1 b c h3]
        · obtain ⟨v, hv⟩ := hr
          obtain ⟨x, hx, _⟩ := Option.map_eq_some_iff.1 hv
          exact ⟨x, hx⟩
      · cases h
    · cases h
  · split at h
    · split at h
      · rename_i b o l m _ c o' l' m' _ h1
        simp only [Bool.and_eq_true] at h1
        obtain ⟨h1, h5, h6⟩ := h1
        have h1 := Nat.eq_of_beq_eq_true h1
        have h5 := Nat.eq_of_beq_eq_true h5
        have h6 := Nat.eq_of_beq_eq_true h6
        subst h1
        subst h5
        subst h6
        obtain ⟨nm', h2, h3, h4⟩ := bindK_ok h
        refine ⟨nm', sy, k, h2, ⟨h4.ok, h4.le, fun nf sf _ hle => ?_, fun s r hr => h4.den s r ?_, h4.len⟩⟩
        · simp only [inA, hle.1 b c h3]
        · obtain ⟨v, hv⟩ := hr
          obtain ⟨x, hx, _⟩ := Option.map_eq_some_iff.1 hv
          exact ⟨x, hx⟩
      · cases h
    · cases h
  · split at h
    · split at h
      · rename_i f _ g _ h1
        have h1 := Nat.eq_of_beq_eq_true h1
        subst h1
        exact ⟨nm, sy, k, h, ⟨fun h => h, LeB.refl _ _, fun _ _ _ _ => rfl, fun _ _ _ h => h, fun h => h⟩⟩
      · cases h
    · cases h
  · cases h
theorem Stp.nil {nm : Nms} {sy : List CA} {k : Nat} {In : Nms → List CA → Prop} {De : (Nat → Value) → Ren → Prop} (h : ∀ nf sf, In nf sf) : Stp n0 n In De nm sy k nm sy k := ⟨fun h => h, LeB.refl _ _, fun nf sf _ _ => h nf sf, fun _ _ _ h => h, fun h => h⟩
theorem Stp.then {nm nm1 nm2 : Nms} {sy sy1 sy2 : List CA} {k k1 k2 : Nat} {I1 I2 I3 : Nms → List CA → Prop} {D1 D2 D3 : (Nat → Value) → Ren → Prop} (h : Stp n0 n I1 D1 nm sy k nm1 sy1 k1) (h' : Stp n0 n I2 D2 nm1 sy1 k1 nm2 sy2 k2) (hI : ∀ nf sf, I1 nf sf → I2 nf sf → I3 nf sf) (hD : ∀ s r, D3 s r → D1 s r ∧ D2 s r) : Stp n0 n I3 D3 nm sy k nm2 sy2 k2 :=
  ⟨fun ho => h'.ok (h.ok ho), h.le.trans h'.le, fun nf sf hk hle => hI nf sf (h.eq nf sf hk (h'.le.trans hle)) (h'.eq nf sf (h.len hk) hle), fun s r hd hb => h'.den s r (hD s r hd).2 (h.den s r (hD s r hd).1 hb), fun hk => h'.len (h.len hk)⟩
theorem mL_ok : ∀ {ps as : List CA} {k : Nat} {nm : Nms} {sy : List CA} {K : MK}, mL n0 n ps as nm sy k K = some out → ∃ nm' sy' k', K nm' sy' k' = some out ∧ Stp n0 n (fun nf sf => inL (lkN nf) (syOf sf) ps = some as) (fun s r => ∃ vs, dL s r as = some vs) nm sy k nm' sy' k'
  | [], [], k, nm, sy, K, h => ⟨nm, sy, k, h, Stp.nil fun _ _ => rfl⟩
  | [], _ :: _, _, _, _, _, h => by cases h
  | _ :: _, [], _, _, _, _, h => by cases h
  | p :: ps, a :: as, k, nm, sy, K, h => by
    have h : mA n0 n p a nm sy k (fun nm sy k => mL n0 n ps as nm sy k K) = some out := h
    obtain ⟨nm1, sy1, k1, h1, h2⟩ := mA_ok h
    obtain ⟨nm2, sy2, k2, h3, h4⟩ := mL_ok h1
    refine ⟨nm2, sy2, k2, h3, h2.then h4 (fun nf sf q1 q2 => ?_) fun s r hd => ?_⟩
    · unfold inL
      rw [q1, q2]
    · obtain ⟨vs, hv⟩ := hd
      obtain ⟨v, us, g1, g2, _⟩ := dL_cons hv
      exact ⟨⟨v, g1⟩, us, g2⟩
theorem mP_ok {p a : CP} {k : Nat} {nm : Nms} {sy : List CA} {K : MK} (h : mP n0 n p a nm sy k K = some out) : ∃ nm' sy' k', K nm' sy' k' = some out ∧ Stp n0 n (fun nf sf => inP (lkN nf) (syOf sf) p = some a) (fun s r => ∃ v, a.d s r = some v) nm sy k nm' sy' k' := by
  unfold mP at h
  split at h
  · split at h
    · obtain ⟨nm', sy', k', h1, h2⟩ := mA_ok h
      exact ⟨nm', sy', k', h1, h2.ok, h2.le, fun nf sf hk hle => by simp only [inP, h2.eq nf sf hk hle], h2.den, h2.len⟩
    · cases h
  · split at h
    · obtain ⟨nm', sy', k', h1, h2⟩ := mL_ok h
      refine ⟨nm', sy', k', h1, h2.ok, h2.le, fun nf sf hk hle => by simp only [inP, h2.eq nf sf hk hle], fun s r hd => h2.den s r ?_, h2.len⟩
      obtain ⟨v, hv⟩ := hd
      obtain ⟨vs, hv, _⟩ := Option.map_eq_some_iff.1 hv
      exact ⟨vs, hv⟩
    · cases h
theorem mVs_ok : ∀ {ps as : List CV} {k : Nat} {nm : Nms} {sy : List CA} {K : MK}, mVs n0 n ps as nm sy k K = some out → ∃ nm' sy' k', K nm' sy' k' = some out ∧ Stp n0 n (fun nf sf => inVs (lkN nf) (syOf sf) ps = some as) (fun s r => ∃ vs, dVs s r as = some vs) nm sy k nm' sy' k'
  | [], [], k, nm, sy, K, h => ⟨nm, sy, k, h, Stp.nil fun _ _ => rfl⟩
  | .p p :: ps, .p a :: as, k, nm, sy, K, h => by
    have h : mP n0 n p a nm sy k (fun nm sy k => mVs n0 n ps as nm sy k K) = some out := h
    obtain ⟨nm1, sy1, k1, h1, h2⟩ := mP_ok h
    obtain ⟨nm2, sy2, k2, h3, h4⟩ := mVs_ok h1
    refine ⟨nm2, sy2, k2, h3, h2.then h4 (fun nf sf q1 q2 => ?_) fun s r hd => ?_⟩
    · simp only [inVs, inV, q1, q2]
    · obtain ⟨vs, hv⟩ := hd
      obtain ⟨v, us, g1, g2, _⟩ := dVs_cons hv
      exact ⟨⟨v, g1⟩, us, g2⟩
  | [], _ :: _, _, _, _, _, h => by cases h
  | .p _ :: _, [], _, _, _, _, h => by cases h
  | .tup _ :: _, _, _, _, _, _, h => by unfold mVs at h; cases h
  | .p _ :: _, .tup _ :: _, _, _, _, _, h => by cases h
/-- the blocks that were looked at, each with its like -/
structure BsOk (n0 n : Nat) (H HP : Hp) (rd rd' : Hp) (nm : Nms) (sy : List CA) (k : Nat) (nm' : Nms) (sy' : List CA) (k' : Nat) : Prop where
  stp : Stp n0 n (fun _ _ => True) (fun s r => ∃ W, Fits s r rd' W) nm sy k nm' sy' k'
  sub : ∀ p ∈ rd, p ∈ rd'
  inH : ∀ p ∈ rd', p ∈ rd ∨ p ∈ H
  all : ∀ nf sf, k = sy.length → LeB nm' sy' nf sf → ∀ p ∈ HP, ∃ c cs, lkN nf p.1 = some c ∧ inL (lkN nf) (syOf sf) p.2.cs = some cs ∧ (c, ⟨p.2.t, cs, p.2.sl⟩) ∈ rd'
theorem mBs_ok {H : Hp} : ∀ {HP rd : Hp} {k : Nat} {nm : Nms} {sy : List CA} {K : Hp → MK}, mBs n0 n H HP rd nm sy k K = some out → ∃ rd' nm' sy' k', K rd' nm' sy' k' = some out ∧ BsOk n0 n H HP rd rd' nm sy k nm' sy' k'
  | [], rd, k, nm, sy, K, h => ⟨rd, nm, sy, k, h, Stp.nil fun _ _ => trivial, fun _ h => h, fun _ h => .inl h, fun _ _ _ _ p hp => by cases hp⟩
  | (b, ⟨t, cs, sl⟩) :: l, rd, k, nm, sy, K, h => by
    unfold mBs at h
    split at h
    · cases h
    · rename_i c hc
      rw [findK_eq] at h
      cases hk : findH H c with
      | none => rw [hk] at h; cases h
      | some kb =>
        rw [hk] at h
        obtain ⟨t', cs', sl'⟩ := kb
        have h : (match Nat.beq t t' && eqSl sl sl' with
          | true => mL n0 n cs cs' nm sy k (fun nm sy k => mBs n0 n H l ((c, ⟨t', cs', sl'⟩) :: rd) nm sy k K)
          | false => none) = some out := h
        split at h
        · rename_i h1
          simp only [Bool.and_eq_true] at h1
          have h2 : t = t' := Nat.eq_of_beq_eq_true h1.1
          have h3 := eqSl_ok h1.2
          subst h2
          subst h3
          obtain ⟨nm1, sy1, k1, h4, h5⟩ := mL_ok h
          obtain ⟨rd', nm2, sy2, k2, h6, h7⟩ := mBs_ok h4
          refine ⟨rd', nm2, sy2, k2, h6, ⟨fun ho => h7.stp.ok (h5.ok ho), h5.le.trans h7.stp.le, fun _ _ _ _ => trivial, fun s r hd hb => ?_, fun hk => h7.stp.len (h5.len hk)⟩, fun p hp => h7.sub p (List.mem_cons_of_mem _ hp), fun p hp => ?_, fun nf sf hk' hle p hp => ?_⟩
          · refine h7.stp.den s r hd (h5.den s r ?_ hb)
            obtain ⟨W, hF⟩ := hd
            obtain ⟨x, hx⟩ := hb.1 b c hc
            obtain ⟨vs, cur, h8, _, _⟩ := hF.fit (c, ⟨t, cs', sl⟩) (h7.sub _ (List.mem_cons_self ..)) x.1 x.2 hx
            exact ⟨vs, h8⟩
          · rcases h7.inH p hp with hp | hp
            · rcases List.mem_cons.1 hp with rfl | hp
              · exact .inr (findH_mem hk)
              · exact .inl hp
            · exact .inr hp
          · rcases List.mem_cons.1 hp with rfl | hp
            · exact ⟨c, cs', (h7.stp.le.trans hle).1 b c (h5.le.1 b c hc), h5.eq nf sf hk' (h7.stp.le.trans hle), h7.sub _ (List.mem_cons_self ..)⟩
            · exact h7.all nf sf (h5.len hk') hle p hp
        · cases h
theorem inHp_mem {nm : Nat → Option Nat} {sy : Nat → CA} : ∀ {HP H : Hp}, inHp nm sy HP = some H → ∀ p ∈ H, ∃ q ∈ HP, nm q.1 = some p.1 ∧ inL nm sy q.2.cs = some p.2.cs ∧ p.2.t = q.2.t ∧ p.2.sl = q.2.sl
  | [], _, h, p, hp => by injection h with h; subst h; cases hp
  | (b, ⟨t, cs, sl⟩) :: l, _, h, p, hp => by
    unfold inHp at h
    split at h
    · rename_i c cs' l' h1 h2 h3
      injection h with h
      subst h
      rcases List.mem_cons.1 hp with rfl | hp
      · exact ⟨_, List.mem_cons_self .., h1, h2, rfl, rfl⟩
      · obtain ⟨q, hq, h4⟩ := inHp_mem h3 p hp
        exact ⟨q, List.mem_cons_of_mem _ hq, h4⟩
    · cases h
theorem inNs_mem {nm : Nat → Option Nat} : ∀ {T T' : List Nat}, inNs nm T = some T' → (∀ b ∈ T, ∃ c, nm b = some c ∧ c ∈ T') ∧ ∀ c ∈ T', ∃ b ∈ T, nm b = some c
  | [], _, h => by injection h with h; subst h; simp
  | b :: l, _, h => by
    unfold inNs at h
    split at h
    · rename_i c l' h1 h2
      injection h with h
      subst h
      obtain ⟨h3, h4⟩ := inNs_mem h2
      refine ⟨fun x hx => ?_, fun x hx => ?_⟩
      · rcases List.mem_cons.1 hx with rfl | hx
        · exact ⟨c, h1, List.mem_cons_self ..⟩
        · obtain ⟨y, hy, h5⟩ := h3 x hx
          exact ⟨y, hy, List.mem_cons_of_mem _ h5⟩
      · rcases List.mem_cons.1 hx with rfl | hx
        · exact ⟨b, List.mem_cons_self .., h1⟩
        · obtain ⟨y, hy, h5⟩ := h4 x hx
          exact ⟨y, List.mem_cons_of_mem _ hy, h5⟩
    · cases h
theorem mtch_ok {P : Program} {s : Nat → Value} {f : Nat} {argsP args : List CV} {HP H : Hp} {n : Nat} {o : Out} (hs : ∀ i, (s i).oneCell' = true) (hsim : ∀ s' : Nat → Value, (∀ i, (s' i).oneCell' = true) → CallSim P s' f argsP HP n0 o) (hlow : Low HP n0) (h : mtch argsP HP n0 o args H n = some out) : CallSim P s f args H n out := by
  unfold mtch at h
  obtain ⟨nm1, sy1, k1, h1, h2⟩ := mVs_ok h
  obtain ⟨rd, nm, sy, k, h3, h4⟩ := mBs_ok h1
  have h0 : OkB n0 n [] [] 0 := ⟨fun b c h => (by cases h), fun b b' c h => (by cases h), rfl, fun a ha => (by cases ha)⟩
  have hok := h4.stp.ok (h2.ok h0)
  obtain ⟨v, news, nx, T, U, rd0⟩ := o
  unfold mO at h3
  simp only at h3
  split at h3
  · rename_i v' news' U' T' q1 q2 q3 q4
    rw [frcV_eq, frcH_eq, frcH_eq, fcN_eq] at h3
    injection h3 with h3
    subst h3
    obtain ⟨t1, t2⟩ := inNs_mem q4
    refine match_sim (nm := lkN nm) (sy := syOf sy) (HP := HP) (n0 := n0) (argsP := argsP) hs ⟨hsim, hlow, hok.low, hok.inj, h2.eq nm sy rfl h4.stp.le, fun p hp => ?_, h4.all nm sy (h2.len rfl) (LeB.refl _ _), fun i => ?_, fun s r A W hA hF i => ?_, q1, rfl, t1, t2, inHp_mem q2, inHp_mem q3⟩
    · rcases h4.inH p hp with hp | hp
      · cases hp
      · exact hp
    · unfold syOf
      cases hi : sy.reverse[i]? with
      | none => rfl
      | some a => exact hok.ok a (List.mem_reverse.1 (List.mem_of_getElem? hi))
    · have hd := h4.stp.den s r ⟨W, hF⟩ (h2.den s r ⟨A, hA⟩ ⟨fun b c h => (by cases h), fun a ha => (by cases ha)⟩)
      unfold syOf
      cases hi : sy.reverse[i]? with
      | none => exact ⟨_, rfl⟩
      | some a => exact hd.2 a (List.mem_reverse.1 (List.mem_of_getElem? hi))
  · cases h3
end
end Go.Proofs.YtmlpimckfneliaaGreat.Ev
