/- A run reckoned beforehand: what TopStage asks of its story; how its run is put together. No conditions. -/
import Derived.Test.YtmlpimckfneliaaGreatGm
import Derived.Test.YtmlpimckfneliaaGreatHv
namespace Go.Proofs.YtmlpimckfneliaaGreat.Ev
open Go.RowKit
/-- a contract told in the kit's way is a reckoned call -/
theorem con_sim {P : Program} {s : Nat → Value} {f : Nat} {args : List CV} {H : Hp} {n : Nat} {v : CV} {V : Value} {A0 : List Value} (hfn : FnKnown P f) (hA : ∀ r A, dVs s r args = some A → A = A0) (hC : ∀ W : World, Calls P f A0.toArray W fun e W' => e = .returned V ∧ Below W.heap.size W W') (hv : ∀ r, v.d s r = some V) : CallSim P s f args H n ⟨v, [], n, [], [], []⟩ :=
  ⟨hfn, ⟨by simp, Nat.le_refl _, by simp, by simp, by simp⟩, fun r A W hA' _ _ _ => by
    rw [hA r A hA']
    exact (hC W).mono fun e W' ⟨he, hB⟩ => ⟨r, V, he, ⟨Nat.le_refl _, fun _ _ => rfl, hB.os, hB.tape, hB.output, hB.size, fun B hB' _ => hB.block B hB', fun b B c h1 h2 _ => absurd (Nat.lt_of_le_of_lt h1 h2) (Nat.lt_irrefl _)⟩, hv r, fits_nil⟩⟩
/-- the story's six cells stand for anything -/
def tsA : List CV := [.p (.ag (symsF 0 6))]
def wiA : List CV := [.p (.one (.sym 4)), aI 64]
def ansT : Out := ⟨.p (.one (kBo true)), [], 0, [], [], []⟩
def sayH (hv : Bool) (args : List CV) (_ : Hp) (n : Nat) : R := match eqList eqCV args tsA with
  | true => some ⟨.p (.one (kBo hv)), [], n, [], [], []⟩
  | false => none
def sayW (t : Nat) (args : List CV) (_ : Hp) (n : Nat) : R := match eqList eqCV args wiA with
  | true => some ⟨aI t, [], n, [], [], []⟩
  | false => none
noncomputable def orcH (hv : Bool) (t : Nat) : CallF := orElse (only 4 (sayH hv)) (only 6 (sayW t))
noncomputable def runH (hv : Bool) (t : Nat) : CallF := xCall cfg0 (orElse (orcH hv t) orcS) hiF topD
def topOk (hv : Bool) (t : Nat) : Prop := isOut (runH hv t 3 tsA [] 0) ansT = true
noncomputable def topB (hv : Bool) (t : Nat) : Bool := frcN t fun t => isOut (runH hv t 3 tsA [] 0) ansT
theorem topB_ok {hv : Bool} {t : Nat} (h : topB hv t = true) : topOk hv t := by
  unfold topB at h
  rw [frcN_eq] at h
  exact h
/-- a story's cells -/
def cellsOf (a0 a1 a2 a3 a5 : Option Addr) (l0 l1 l2 l3 l5 c0 c1 c2 c3 c5 : Nat) (m : Int) (i : Nat) : Value := match i with
  | 0 => .slice a0 l0 c0
  | 1 => .slice a1 l1 c1
  | 2 => .slice a2 l2 c2
  | 3 => .slice a3 l3 c3
  | 5 => .slice a5 l5 c5
  | _ => .int .i64 m
theorem one_cells (a0 a1 a2 a3 a5 : Option Addr) (l0 l1 l2 l3 l5 c0 c1 c2 c3 c5 : Nat) (m : Int) : One (cellsOf a0 a1 a2 a3 a5 l0 l1 l2 l3 l5 c0 c1 c2 c3 c5 m) := fun i => by
  unfold cellsOf
  split <;> rfl
theorem known_heavy : FnKnown Tryz.prog 4 := ⟨_, Tryz.func4, by kernel_rfl, by kernel_rfl⟩
theorem known_within : FnKnown Tryz.prog 6 := ⟨_, Tryz.func6, by kernel_rfl, by kernel_rfl⟩
theorem orcH_ok (a0 a1 a2 a3 a5 : Option Addr) (l0 l1 l2 l3 l5 c0 c1 c2 c3 c5 : Nat) (m : Int) (t : Nat) (ht : withinI m 64 = t) : CallsOk Tryz.prog (cellsOf a0 a1 a2 a3 a5 l0 l1 l2 l3 l5 c0 c1 c2 c3 c5 m) (orcH (hvB l0 l1 l2 l3 l5) t) := by
  intro f args H n out h _
  unfold orcH orElse at h
  split at h
  · rename_i o ho
    injection h with h
    subst h
    unfold only at ho
    cases hf : Nat.beq f 4 with
    | false => rw [hf] at ho; cases ho
    | true =>
      rw [hf] at ho
      have := Nat.eq_of_beq_eq_true hf
      subst this
      have ho : sayH (hvB l0 l1 l2 l3 l5) args H n = some o := ho
      unfold sayH at ho
      split at ho
      · rename_i hq
        have hq := eqList_ok eqCV_ok hq
        subst hq
        injection ho with ho
        subst ho
        refine con_sim (A0 := [.agg #[.slice a0 l0 c0, .slice a1 l1 c1, .slice a2 l2 c2, .slice a3 l3 c3, .int .i64 m, .slice a5 l5 c5]]) known_heavy (fun r A hA => ?_) (fun W => heavy_any a0 a1 a2 a3 a5 l0 l1 l2 l3 l5 c0 c1 c2 c3 c5 m W) fun r => rfl
        injection hA with hA
        exact hA.symm
      · cases ho
  · unfold only at h
    cases hf : Nat.beq f 6 with
    | false => rw [hf] at h; cases h
    | true =>
      rw [hf] at h
      have := Nat.eq_of_beq_eq_true hf
      subst this
      have h : sayW t args H n = some out := h
      unfold sayW at h
      split at h
      · rename_i hq
        have hq := eqList_ok eqCV_ok hq
        subst hq
        injection h with h
        subst h
        refine con_sim (A0 := [.int .i64 m, .int .i64 64]) (V := .int .i64 t) known_within (fun r A hA => ?_) (fun W => (within_eq m 64 W (by decide) (by decide)).mono fun e W' ⟨he, hw⟩ => ⟨by rw [he, ht], by rw [← hw]; exact Below.refl _ _⟩) fun r => rfl
        injection hA with hA
        exact hA.symm
      · cases h
theorem orElse_ok {P : Program} {s : Nat → Value} {a b : CallF} (ha : CallsOk P s a) (hb : CallsOk P s b) : CallsOk P s (orElse a b) := fun f args H n out h hl => by
  unfold orElse at h
  split at h
  · rename_i o ho
    injection h with h
    subst h
    exact ha f args H n o ho hl
  · exact hb f args H n out h hl
/-- TopStage, of any story -/
theorem top_any (hyes : ∀ t, t < 64 → topOk true t) (hno : ∀ t, t < 64 → topOk false t) (a0 a1 a2 a3 a5 : Option Addr) (l0 l1 l2 l3 l5 c0 c1 c2 c3 c5 : Nat) (m : Int) (W : World) :
    Calls Tryz.prog 3 #[.agg #[.slice a0 l0 c0, .slice a1 l1 c1, .slice a2 l2 c2, .slice a3 l3 c3, .int .i64 m, .slice a5 l5 c5]] W fun e W' => e = .returned (.bool true) ∧ Below W.heap.size W W' := by
  have hs := one_cells a0 a1 a2 a3 a5 l0 l1 l2 l3 l5 c0 c1 c2 c3 c5 m
  obtain ⟨hb1, hb2⟩ := within_bd m 64 (by decide)
  have ht : withinI m 64 = ((withinI m 64).toNat : Nat) := by omega
  have hlt : (withinI m 64).toNat < 64 := by omega
  have hok := orcH_ok a0 a1 a2 a3 a5 l0 l1 l2 l3 l5 c0 c1 c2 c3 c5 m (withinI m 64).toNat ht
  have hrun : topOk (hvB l0 l1 l2 l3 l5) (withinI m 64).toNat := by
    cases hvB l0 l1 l2 l3 l5 with
    | true => exact hyes _ hlt
    | false => exact hno _ hlt
  have hsim := xCall_ok mixed0 (cfgOk rfl (sym0 hs)) (fnsOk rfl) (orElse_ok hok (soundS _ hs)) topD _ _ _ _ _ (isOut_ok hrun) (fun p hp => by cases hp)
  refine (hsim.sim (fun _ => none) [.agg #[.slice a0 l0 c0, .slice a1 l1 c1, .slice a2 l2 c2, .slice a3 l3 c3, .int .i64 m, .slice a5 l5 c5]] W rfl (fun p hp => by cases hp) (fun _ _ _ => rfl) fits_nil).mono ?_
  rintro e W' ⟨r', V, rfl, hP, hd, _⟩
  injection hd with hd
  subst hd
  exact ⟨rfl, hP.os, hP.tape, hP.output, hP.size, fun k hk => hP.same k hk (fun b hb => by cases hb)⟩
end Go.Proofs.YtmlpimckfneliaaGreat.Ev
