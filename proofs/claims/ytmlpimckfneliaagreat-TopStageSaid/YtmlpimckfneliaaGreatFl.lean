/- A run reckoned beforehand: what was reckoned of one call serves every call that is alike, whatever its blocks are called and whatever stands where it stands for anything. No conditions. -/
import Derived.Test.YtmlpimckfneliaaGreatFg
namespace Go.Proofs.YtmlpimckfneliaaGreat.Ev
section
variable (nm : Nat → Option Nat) (sy : Nat → CA)
def inA : CA → Option CA
  | .lit v => some (.lit v)
  | .sym i => some (sy i)
  | .ptr b off => match nm b with
    | some c => some (.ptr c off)
    | none => none
  | .sl b off len cap => match nm b with
    | some c => some (.sl c off len cap)
    | none => none
  | .slu b off len sub => match nm b with
    | some c => some (.slu c off len sub)
    | none => none
  | .fn f [] => some (.fn f [])
  | .fn _ _ => none
def inL : List CA → Option (List CA)
  | [] => some []
  | a :: l => match inA nm sy a, inL l with
    | some a, some l => some (a :: l)
    | _, _ => none
def inP : CP → Option CP
  | .one a => match inA nm sy a with
    | some a => some (.one a)
    | none => none
  | .ag cs => match inL nm sy cs with
    | some cs => some (.ag cs)
    | none => none
def inPs : List CP → Option (List CP)
  | [] => some []
  | a :: l => match inP nm sy a, inPs l with
    | some a, some l => some (a :: l)
    | _, _ => none
def inV : CV → Option CV
  | .p p => match inP nm sy p with
    | some p => some (.p p)
    | none => none
  | .tup l => match inPs nm sy l with
    | some l => some (.tup l)
    | none => none
def inVs : List CV → Option (List CV)
  | [] => some []
  | a :: l => match inV nm sy a, inVs l with
    | some a, some l => some (a :: l)
    | _, _ => none
end
section
variable {nm : Nat → Option Nat} {sy : Nat → CA} {s s' : Nat → Value} {r r' : Ren}
/-- from the one that is there to the one that was reckoned: hs, hr; and back -/
theorem inA_d (hr : ∀ b c x, nm b = some c → r c = some x → r' b = some x) (hs : ∀ i v, (sy i).d s r = some v → s' i = v) {a a' : CA} {v : Value} (h : inA nm sy a = some a') (hv : a'.d s r = some v) : a.d s' r' = some v := by
  cases a with
  | lit u =>
    injection h with h
    subst h
    exact hv
  | sym i =>
    injection h with h
    subst h
    exact congrArg some (hs i v hv)
  | ptr b off =>
    simp only [inA] at h
    split at h
    · rename_i c hc
      injection h with h
      subst h
      simp only [CA.d, Option.map_eq_some_iff] at hv ⊢
      obtain ⟨x, hx, rfl⟩ := hv
      exact ⟨x, hr b c x hc hx, rfl⟩
    · cases h
  | sl b off len cap =>
    simp only [inA] at h
    split at h
    · rename_i c hc
      injection h with h
      subst h
      simp only [CA.d, Option.map_eq_some_iff] at hv ⊢
      obtain ⟨x, hx, rfl⟩ := hv
      exact ⟨x, hr b c x hc hx, rfl⟩
    · cases h
  | slu b off len cap =>
    simp only [inA] at h
    split at h
    · rename_i c hc
      injection h with h
      subst h
      simp only [CA.d, Option.map_eq_some_iff] at hv ⊢
      obtain ⟨x, hx, rfl⟩ := hv
      exact ⟨x, hr b c x hc hx, rfl⟩
    · cases h
  | fn f ps =>
    cases ps with
    | nil =>
      injection h with h
      subst h
      exact hv
    | cons p ps => cases h
theorem inL_d (hr : ∀ b c x, nm b = some c → r c = some x → r' b = some x) (hs : ∀ i v, (sy i).d s r = some v → s' i = v) : ∀ {l l' : List CA} {vs : List Value}, inL nm sy l = some l' → dL s r l' = some vs → dL s' r' l = some vs
  | [], _, _, h, hv => by
    injection h with h
    subst h
    exact hv
  | a :: l, _, _, h, hv => by
    unfold inL at h
    split at h
    · rename_i a' l' h1 h2
      injection h with h
      subst h
      obtain ⟨v, us, q1, q2, rfl⟩ := dL_cons hv
      exact dL_mk (inA_d hr hs h1 q1) (inL_d hr hs h2 q2)
    · cases h
theorem inP_d (hr : ∀ b c x, nm b = some c → r c = some x → r' b = some x) (hs : ∀ i v, (sy i).d s r = some v → s' i = v) {p p' : CP} {v : Value} (h : inP nm sy p = some p') (hv : p'.d s r = some v) : p.d s' r' = some v := by
  cases p with
  | one a =>
    simp only [inP] at h
    split at h
    · rename_i a' h1
      injection h with h
      subst h
      exact inA_d hr hs h1 hv
    · cases h
  | ag cs =>
    simp only [inP] at h
    split at h
    · rename_i cs' h1
      injection h with h
      subst h
      simp only [CP.d, Option.map_eq_some_iff] at hv ⊢
      obtain ⟨x, hx, rfl⟩ := hv
      exact ⟨x, inL_d hr hs h1 hx, rfl⟩
    · cases h
theorem inPs_d (hr : ∀ b c x, nm b = some c → r c = some x → r' b = some x) (hs : ∀ i v, (sy i).d s r = some v → s' i = v) : ∀ {l l' : List CP} {vs : List Value}, inPs nm sy l = some l' → dPs s r l' = some vs → dPs s' r' l = some vs
  | [], _, _, h, hv => by
    injection h with h
    subst h
    exact hv
  | a :: l, _, _, h, hv => by
    unfold inPs at h
    split at h
    · rename_i a' l' h1 h2
      injection h with h
      subst h
      obtain ⟨v, us, q1, q2, rfl⟩ := dPs_cons hv
      exact dPs_mk (inP_d hr hs h1 q1) (inPs_d hr hs h2 q2)
    · cases h
theorem inV_d (hr : ∀ b c x, nm b = some c → r c = some x → r' b = some x) (hs : ∀ i v, (sy i).d s r = some v → s' i = v) {w w' : CV} {v : Value} (h : inV nm sy w = some w') (hv : w'.d s r = some v) : w.d s' r' = some v := by
  cases w with
  | p p =>
    simp only [inV] at h
    split at h
    · rename_i p' h1
      injection h with h
      subst h
      exact inP_d hr hs h1 hv
    · cases h
  | tup l =>
    simp only [inV] at h
    split at h
    · rename_i l' h1
      injection h with h
      subst h
      simp only [CV.d, Option.map_eq_some_iff] at hv ⊢
      obtain ⟨x, hx, rfl⟩ := hv
      exact ⟨x, inPs_d hr hs h1 hx, rfl⟩
    · cases h
theorem inVs_d (hr : ∀ b c x, nm b = some c → r c = some x → r' b = some x) (hs : ∀ i v, (sy i).d s r = some v → s' i = v) : ∀ {l l' : List CV} {vs : List Value}, inVs nm sy l = some l' → dVs s r l' = some vs → dVs s' r' l = some vs
  | [], _, _, h, hv => by
    injection h with h
    subst h
    exact hv
  | a :: l, _, _, h, hv => by
    unfold inVs at h
    split at h
    · rename_i a' l' h1 h2
      injection h with h
      subst h
      obtain ⟨v, us, q1, q2, rfl⟩ := dVs_cons hv
      exact dVs_mk (inV_d hr hs h1 q1) (inVs_d hr hs h2 q2)
    · cases h
-- and back
theorem ouA_d (hr : ∀ b c x, nm b = some c → r' b = some x → r c = some x) (hs : ∀ i, (sy i).d s r = some (s' i)) {a a' : CA} {v : Value} (h : inA nm sy a = some a') (hv : a.d s' r' = some v) : a'.d s r = some v := by
  cases a with
  | lit u =>
    injection h with h
    subst h
    exact hv
  | sym i =>
    injection h with h
    subst h
    rw [hs i]
    exact hv
  | ptr b off =>
    simp only [inA] at h
    split at h
    · rename_i c hc
      injection h with h
      subst h
      simp only [CA.d, Option.map_eq_some_iff] at hv ⊢
      obtain ⟨x, hx, rfl⟩ := hv
      exact ⟨x, hr b c x hc hx, rfl⟩
    · cases h
  | sl b off len cap =>
    simp only [inA] at h
    split at h
    · rename_i c hc
      injection h with h
      subst h
      simp only [CA.d, Option.map_eq_some_iff] at hv ⊢
      obtain ⟨x, hx, rfl⟩ := hv
      exact ⟨x, hr b c x hc hx, rfl⟩
    · cases h
  | slu b off len cap =>
    simp only [inA] at h
    split at h
    · rename_i c hc
      injection h with h
      subst h
      simp only [CA.d, Option.map_eq_some_iff] at hv ⊢
      obtain ⟨x, hx, rfl⟩ := hv
      exact ⟨x, hr b c x hc hx, rfl⟩
    · cases h
  | fn f ps =>
    cases ps with
    | nil =>
      injection h with h
      subst h
      exact hv
    | cons p ps => cases h
theorem ouL_d (hr : ∀ b c x, nm b = some c → r' b = some x → r c = some x) (hs : ∀ i, (sy i).d s r = some (s' i)) : ∀ {l l' : List CA} {vs : List Value}, inL nm sy l = some l' → dL s' r' l = some vs → dL s r l' = some vs
  | [], _, _, h, hv => by
    injection h with h
    subst h
    exact hv
  | a :: l, _, _, h, hv => by
    unfold inL at h
    split at h
    · rename_i a' l' h1 h2
      injection h with h
      subst h
      obtain ⟨v, us, q1, q2, rfl⟩ := dL_cons hv
      exact dL_mk (ouA_d hr hs h1 q1) (ouL_d hr hs h2 q2)
    · cases h
theorem ouP_d (hr : ∀ b c x, nm b = some c → r' b = some x → r c = some x) (hs : ∀ i, (sy i).d s r = some (s' i)) {p p' : CP} {v : Value} (h : inP nm sy p = some p') (hv : p.d s' r' = some v) : p'.d s r = some v := by
  cases p with
  | one a =>
    simp only [inP] at h
    split at h
    · rename_i a' h1
      injection h with h
      subst h
      exact ouA_d hr hs h1 hv
    · cases h
  | ag cs =>
    simp only [inP] at h
    split at h
    · rename_i cs' h1
      injection h with h
      subst h
      simp only [CP.d, Option.map_eq_some_iff] at hv ⊢
      obtain ⟨x, hx, rfl⟩ := hv
      exact ⟨x, ouL_d hr hs h1 hx, rfl⟩
    · cases h
theorem ouPs_d (hr : ∀ b c x, nm b = some c → r' b = some x → r c = some x) (hs : ∀ i, (sy i).d s r = some (s' i)) : ∀ {l l' : List CP} {vs : List Value}, inPs nm sy l = some l' → dPs s' r' l = some vs → dPs s r l' = some vs
  | [], _, _, h, hv => by
    injection h with h
    subst h
    exact hv
  | a :: l, _, _, h, hv => by
    unfold inPs at h
    split at h
    · rename_i a' l' h1 h2
      injection h with h
      subst h
      obtain ⟨v, us, q1, q2, rfl⟩ := dPs_cons hv
      exact dPs_mk (ouP_d hr hs h1 q1) (ouPs_d hr hs h2 q2)
    · cases h
theorem ouV_d (hr : ∀ b c x, nm b = some c → r' b = some x → r c = some x) (hs : ∀ i, (sy i).d s r = some (s' i)) {w w' : CV} {v : Value} (h : inV nm sy w = some w') (hv : w.d s' r' = some v) : w'.d s r = some v := by
  cases w with
  | p p =>
    simp only [inV] at h
    split at h
    · rename_i p' h1
      injection h with h
      subst h
      exact ouP_d hr hs h1 hv
    · cases h
  | tup l =>
    simp only [inV] at h
    split at h
    · rename_i l' h1
      injection h with h
      subst h
      simp only [CV.d, Option.map_eq_some_iff] at hv ⊢
      obtain ⟨x, hx, rfl⟩ := hv
      exact ⟨x, ouPs_d hr hs h1 hx, rfl⟩
    · cases h
end
/-- names in what is there now: those that were matched, and new ones -/
def nm2 (nm : Nat → Option Nat) (n0 nx0 n : Nat) : Nat → Option Nat := fun b => if b < n0 then nm b else if b < nx0 then some (n + (b - n0)) else none
/-- how a reckoned call and one that is made now belong together -/
structure Match (P : Program) (f : Nat) (argsP : List CV) (HP : Hp) (n0 : Nat) (outP : Out) (nm : Nat → Option Nat) (sy : Nat → CA) (args : List CV) (H : Hp) (n : Nat) (out : Out) : Prop where
  sim : ∀ s' : Nat → Value, (∀ i, (s' i).oneCell' = true) → CallSim P s' f argsP HP n0 outP
  low : Low HP n0
  nlow : ∀ b c, nm b = some c → b < n0 ∧ c < n
  inj : ∀ b b' c, nm b = some c → nm b' = some c → b = b'
  hargs : inVs nm sy argsP = some args
  rdH : ∀ p ∈ out.rd, p ∈ H
  rd : ∀ p ∈ HP, ∃ c cs, nm p.1 = some c ∧ inL nm sy p.2.cs = some cs ∧ (c, ⟨p.2.t, cs, p.2.sl⟩) ∈ out.rd
  hsy : ∀ i, okA (sy i) = true
  den : ∀ (s : Nat → Value) (r : Ren) (A : List Value) (W : World), dVs s r args = some A → Fits s r out.rd W → ∀ i, ∃ v, (sy i).d s r = some v
  v : inV (nm2 nm n0 outP.nx n) sy outP.v = some out.v
  nx : out.nx = n + (outP.nx - n0)
  T : ∀ b ∈ outP.T, ∃ c, nm b = some c ∧ c ∈ out.T
  T' : ∀ c ∈ out.T, ∃ b ∈ outP.T, nm b = some c
  news : ∀ p ∈ out.news, ∃ q ∈ outP.news, nm2 nm n0 outP.nx n q.1 = some p.1 ∧ inL (nm2 nm n0 outP.nx n) sy q.2.cs = some p.2.cs ∧ p.2.t = q.2.t ∧ p.2.sl = q.2.sl
  U : ∀ p ∈ out.U, ∃ q ∈ outP.U, nm2 nm n0 outP.nx n q.1 = some p.1 ∧ inL (nm2 nm n0 outP.nx n) sy q.2.cs = some p.2.cs ∧ p.2.t = q.2.t ∧ p.2.sl = q.2.sl
theorem match_sim {P : Program} {s : Nat → Value} {f : Nat} {argsP args : List CV} {HP H : Hp} {n0 n : Nat} {outP out : Out} {nm : Nat → Option Nat} {sy : Nat → CA} (hs1 : ∀ i, (s i).oneCell' = true) (hm : Match P f argsP HP n0 outP nm sy args H n out) : CallSim P s f args H n out := by
  have hsim0 := hm.sim (fun _ => .int .i64 0) (fun _ => rfl)
  have hle0 := hsim0.stat.le
  have hUlt : ∀ q ∈ outP.U, q.1 < n0 := fun q hq => by
    obtain ⟨k, hk⟩ := hsim0.stat.T q.1 (hsim0.stat.U q hq)
    exact hm.low (q.1, k) (hsim0.stat.rd _ hk)
  refine ⟨hsim0.fn, ⟨hm.rdH, by rw [hm.nx]; omega, fun p hp => ?_, fun p hp => ?_, fun c hc => ?_⟩, ?_⟩
  · obtain ⟨q, hq, h1, _⟩ := hm.news p hp
    obtain ⟨h2, h3⟩ := hsim0.stat.news q hq
    unfold nm2 at h1
    rw [if_neg (by omega), if_pos h3] at h1
    injection h1 with h1
    rw [hm.nx]
    omega
  · obtain ⟨q, hq, h1, _⟩ := hm.U p hp
    have h2 := hUlt q hq
    unfold nm2 at h1
    rw [if_pos h2] at h1
    obtain ⟨c, h3, h4⟩ := hm.T q.1 (hsim0.stat.U q hq)
    rw [h1] at h3
    injection h3 with h3
    rw [h3]
    exact h4
  · obtain ⟨b, hb, h1⟩ := hm.T' c hc
    obtain ⟨k, hk⟩ := hsim0.stat.T b hb
    obtain ⟨c', cs, h2, _, h3⟩ := hm.rd _ (hsim0.stat.rd _ hk)
    simp only at h2
    rw [h1] at h2
    injection h2 with h2
    subst h2
    exact ⟨_, h3⟩
  · intro r A W hA hlow hfree hF
    have hden := hm.den s r A W hA hF
    let s' : Nat → Value := fun i => ((sy i).d s r).getD (.int .i64 0)
    have hs' : ∀ i, (sy i).d s r = some (s' i) := fun i => by
      obtain ⟨v, hv⟩ := hden i
      show _ = some (((sy i).d s r).getD _)
      rw [hv]
      rfl
    have hone : ∀ i, (s' i).oneCell' = true := fun i => by
      have h1 := hm.hsy i
      rw [okA_eq] at h1
      exact litsOk_one hs1 (l := [sy i]) (vs := [s' i]) h1 (dL_mk (hs' i) rfl) _ (by simp)
    have hsim := hm.sim s' hone
    let r0 : Ren := fun b => match nm b with
      | some c => r c
      | none => none
    have hr0 : ∀ b c, nm b = some c → r0 b = r c := fun b c h => by
      show (match nm b with | some c => r c | none => none) = _
      rw [h]
    have hr0n : ∀ b, nm b = none → r0 b = none := fun b h => by
      show (match nm b with | some c => r c | none => none) = _
      rw [h]
    have hr0lt : ∀ b, n0 ≤ b → r0 b = none := fun b hb => by
      cases h : nm b with
      | none => exact hr0n b h
      | some c => have := (hm.nlow b c h).1; omega
    have hin : ∀ b c x, nm b = some c → r c = some x → r0 b = some x := fun b c x h1 h2 => by rw [hr0 b c h1]; exact h2
    have hins : ∀ i v, (sy i).d s r = some v → s' i = v := fun i v h => by
      rw [hs' i] at h
      injection h
    have hFP : Fits s' r0 HP W := by
      refine ⟨fun p hp B cap hB => ?_, fun p hp q hq B c c' h1 h2 => ?_⟩
      · obtain ⟨c, cs, h1, h2, h3⟩ := hm.rd p hp
        rw [hr0 _ c h1] at hB
        obtain ⟨vs, cur, h4, h5, h6⟩ := hF.fit _ h3 B cap hB
        exact ⟨vs, cur, inL_d hin hins h2 h4, h5, h6⟩
      · obtain ⟨d, cs, h3, _, h4⟩ := hm.rd p hp
        obtain ⟨d', cs', h5, _, h6⟩ := hm.rd q hq
        rw [hr0 _ d h3] at h1
        rw [hr0 _ d' h5] at h2
        have := hF.apart _ h4 _ h6 B c c' h1 h2
        simp only at this
        rw [← this] at h5
        exact hm.inj _ _ _ h3 h5
    refine (hsim.sim r0 A W (inVs_d hin hins hm.hargs hA) (fun p hp => hm.low p (hsim.stat.rd p hp)) (fun b h1 _ => hr0lt b h1) (hFP.sublist hsim.stat.rd)).mono ?_
    rintro e W' ⟨r', V, rfl, hP, hd, hF'⟩
    let r2 : Ren := fun c => if n ≤ c ∧ c < n + (outP.nx - n0) then r' (c - n + n0) else r c
    have hr2old : ∀ c, c < n ∨ n + (outP.nx - n0) ≤ c → r2 c = r c := fun c hc => by
      show (if n ≤ c ∧ c < n + (outP.nx - n0) then r' (c - n + n0) else r c) = r c
      rw [if_neg (by omega)]
    have hr2 : ∀ b c, nm2 nm n0 outP.nx n b = some c → r2 c = r' b := by
      intro b c h
      unfold nm2 at h
      split at h
      · rename_i hb
        rw [hr2old c (.inl (hm.nlow b c h).2), hP.ext b (.inl hb), hr0 b c h]
      · rename_i hb
        split at h
        · rename_i hb'
          injection h with h
          subst h
          show (if n ≤ n + (b - n0) ∧ n + (b - n0) < n + (outP.nx - n0) then r' (n + (b - n0) - n + n0) else r (n + (b - n0))) = r' b
          rw [if_pos ⟨by omega, by omega⟩]
          congr 1
          omega
        · cases h
    have hsub : ∀ a v, CA.d s r a = some v → CA.d s r2 a = some v := fun a v h => CA.d_sub (r' := r2) (fun b x hx => by
      rcases Nat.lt_or_ge b n with h1 | h1
      · rw [hr2old b (.inl h1)]
        exact hx
      · rcases Nat.lt_or_ge b (n + (outP.nx - n0)) with h2 | h2
        · rw [hfree b h1 (by rw [hm.nx]; exact h2)] at hx
          cases hx
        · rw [hr2old b (.inr h2)]
          exact hx) h
    have hs2 : ∀ i, (sy i).d s r2 = some (s' i) := fun i => hsub _ _ (hs' i)
    have hou : ∀ b c x, nm2 nm n0 outP.nx n b = some c → r' b = some x → r2 c = some x := fun b c x h1 h2 => by rw [hr2 b c h1]; exact h2
    refine ⟨r2, V, rfl, ⟨by rw [hm.nx]; omega, fun b hb => ?_, hP.os, hP.tape, hP.output, hP.size, fun B hB hT => ?_, fun b B c h1 h2 h3 => ?_⟩, ouV_d hou hs2 hm.v hd, ?_⟩
    · rw [hm.nx] at hb
      exact hr2old b hb
    · refine hP.same B hB fun b hb c hc => ?_
      obtain ⟨d, h1, h2⟩ := hm.T b hb
      rw [hr0 b d h1] at hc
      exact hT d h2 c hc
    · rw [hm.nx] at h2
      have h4 : r' (b - n + n0) = some (B, c) := by
        have : r2 b = r' (b - n + n0) := by
          show (if n ≤ b ∧ b < n + (outP.nx - n0) then r' (b - n + n0) else r b) = _
          rw [if_pos ⟨h1, h2⟩]
        rw [← this]
        exact h3
      rcases hP.fresh (b - n + n0) B c (by omega) (by omega) h4 with h5 | ⟨b0, h5, c0, h6⟩
      · exact .inl h5
      · obtain ⟨d, h7, h8⟩ := hm.T b0 h5
        rw [hr0 b0 d h7] at h6
        exact .inr ⟨d, h8, c0, h6⟩
    · have hall : ∀ p ∈ out.news ++ out.U, ∃ q ∈ outP.news ++ outP.U, nm2 nm n0 outP.nx n q.1 = some p.1 ∧ inL (nm2 nm n0 outP.nx n) sy q.2.cs = some p.2.cs ∧ p.2.t = q.2.t ∧ p.2.sl = q.2.sl := by
        intro p hp
        rcases List.mem_append.1 hp with hp | hp
        · obtain ⟨q, hq, h⟩ := hm.news p hp
          exact ⟨q, List.mem_append_left _ hq, h⟩
        · obtain ⟨q, hq, h⟩ := hm.U p hp
          exact ⟨q, List.mem_append_right _ hq, h⟩
      refine ⟨fun p hp B cap hB => ?_, fun p hp q hq B c c' h1 h2 => ?_⟩
      · obtain ⟨q, hq, h1, h2, h3, h4⟩ := hall p hp
        rw [hr2 _ _ h1] at hB
        obtain ⟨vs, cur, h5, h6, h7⟩ := hF'.fit q hq B cap hB
        exact ⟨vs, cur, ouL_d hou hs2 h2 h5, by rw [h3]; exact h6, by rw [h4]; exact h7⟩
      · obtain ⟨p', hp', h3, _⟩ := hall p hp
        obtain ⟨q', hq', h4, _⟩ := hall q hq
        rw [hr2 _ _ h3] at h1
        rw [hr2 _ _ h4] at h2
        have := hF'.apart p' hp' q' hq' B c c' h1 h2
        rw [this] at h3
        rw [h3] at h4
        injection h4
end Go.Proofs.YtmlpimckfneliaaGreat.Ev
