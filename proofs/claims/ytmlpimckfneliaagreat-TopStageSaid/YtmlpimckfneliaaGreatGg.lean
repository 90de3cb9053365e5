/- A run reckoned beforehand: the reference's tables as a whole. No conditions. -/
import Derived.Test.YtmlpimckfneliaaGreatGf
namespace Go.Proofs.YtmlpimckfneliaaGreat.Ev
def pgs : Nat → Nat → List CA
  | 0, _ => []
  | k + 1, f => (match Nat.blt f 16 with | true => kM 0 | false => kI64 0) :: kM 1 :: pgs k (Nat.succ f)
def hPgs (n : Nat) : Hp := [(0, ⟨91, pgs n 0, some 2⟩)]
def tblE (n b : Nat) : Rk := ⟨[aI n, .p (.one (.slu 0 0 n 0))], hPgs n, 1, ⟨.p (.ag [slW b n]), [hMem b n (wd n 64)], Nat.add b 2, [], [], hPgs n⟩⟩
theorem okT24 : chk run4 13 (tblE 24 63645) = true := by decide +kernel
theorem okT40 : chk run4 13 (tblE 40 101533) = true := by decide +kernel
noncomputable def orc5 : CallF := orElse (only 13 (orR (mt (tblE 40 101533)) (mt (tblE 24 63645)))) orc3
theorem sound5 : Sound orc5 := sound_or (sound_only (orR_ok (mt_ok soundR4 okT40) (mt_ok soundR4 okT24))) sound3
noncomputable def run5 : CallF := xCall cfg0 orc5 hiF topD
theorem soundR5 : Sound run5 := sound_run sound5 topD
end Go.Proofs.YtmlpimckfneliaaGreat.Ev
