/- A run reckoned beforehand: it wakes. No conditions. -/
import Derived.Test.YtmlpimckfneliaaGreatGh
import Derived.Test.YtmlpimckfneliaaGreatGi
namespace Go.Proofs.YtmlpimckfneliaaGreat.Ev
def wkE : Rk := ⟨[], [], 0, ⟨.p (.one (kBo true)), [], 0, [], [], []⟩⟩
noncomputable def orcW : CallF := orElse orc6 orc7
theorem soundW : Sound orcW := sound_or sound6 sound7
noncomputable def runW : CallF := xCall cfg0 orcW hiF topD
theorem okWk : chk runW 11 wkE = true := by decide +kernel
noncomputable def orcV : CallF := only 11 (mt wkE)
theorem soundV : Sound orcV := sound_only (mt_ok (sound_run soundW topD) okWk)
end Go.Proofs.YtmlpimckfneliaaGreat.Ev
