/- A run reckoned beforehand: rows of 320 and of 192 words, copied. No conditions. -/
import Derived.Test.YtmlpimckfneliaaGreatGa
namespace Go.Proofs.YtmlpimckfneliaaGreat.Ev
def cpLens (len : Nat) : Bool := Nat.beq len 320 || Nat.beq len 192
theorem cp1 : CpOk run00 59 37 false 320 := by
  show isOut _ _ = true
  decide +kernel
theorem cp2 : CpOk run00 59 37 true 320 := by
  show isOut _ _ = true
  decide +kernel
theorem cp3 : CpOk run00 59 37 false 192 := by
  show isOut _ _ = true
  decide +kernel
theorem cp4 : CpOk run00 59 37 true 192 := by
  show isOut _ _ = true
  decide +kernel
noncomputable def orc1 : CallF := only 59 (cpA cpLens 37)
theorem sound1 : Sound orc1 := sound_only (cpA_ok (sound_run sound_none topD) fun len h => by
  unfold cpLens at h
  rw [Bool.or_eq_true] at h
  rcases h with h | h
  · have := Nat.eq_of_beq_eq_true h
    subst this
    exact ⟨by omega, fun u => by cases u; exact cp1; exact cp2⟩
  · have := Nat.eq_of_beq_eq_true h
    subst this
    exact ⟨by omega, fun u => by cases u; exact cp3; exact cp4⟩)
noncomputable def run1 : CallF := xCall cfg0 orc1 hiF topD
theorem soundR1 : Sound run1 := sound_run sound1 topD
end Go.Proofs.YtmlpimckfneliaaGreat.Ev
