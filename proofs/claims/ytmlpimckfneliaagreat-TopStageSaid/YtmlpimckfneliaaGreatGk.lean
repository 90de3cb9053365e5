/- A run reckoned beforehand: the hypervisor may be, before the first step and behind it. No conditions. -/
import Derived.Test.YtmlpimckfneliaaGreatGj
namespace Go.Proofs.YtmlpimckfneliaaGreat.Ev
def vm0 : List CA := [kBo false, kBo false, kI64 0, nilS, nilS, nilS]
def vms4 : List CA := vm0 ++ (vm0 ++ (vm0 ++ vm0))
def host0 : List CA := List.replicate 15 (kU64 0)
def hCpu (b : Nat) (rg : List CA) (e : CA) (sl : Option Nat) : Nat × CB := (b, ⟨52, rg ++ [kI64 0, kI64 0, e, nilS], sl⟩)
def hVms (b : Nat) (sl : Option Nat) : Nat × CB := (b, ⟨121, vms4, sl⟩)
def hHost (b : Nat) (sl : Option Nat) : Nat × CB := (b, ⟨46, host0, sl⟩)
def hyA0 : List CV := [.p (.ag [.slu 0 0 320 0, .sl 1 0 1 1, .sl 2 0 4 4, .sl 3 0 1 1])]
def hyA8 : List CV := [.p (.ag [.slu 0 0 320 0, .slu 1 0 1 0, .slu 2 0 4 0, .slu 3 0 1 0])]
def cpuS0 : Nat × CB := hCpu 1 (symsF 232 15) nilS none
def cpuS8 : Nat × CB := hCpu 1 (symsF 232 15) (tlbS 4) (some 19)
def ab0E : Rk := ⟨hyA0, [hMemS 0, cpuS0, hVms 2 none, hHost 3 none], 4, ⟨.p (.one (kI64 0)), [], 2092, [], [], [hHost 3 none, hVms 2 none, cpuS0, hMemS 0]⟩⟩
def ab8E : Rk := ⟨hyA8, [hMemS 0, cpuS8, hVms 2 (some 6), hHost 3 (some 15), hTlb 4], 5, ⟨.p (.one (kI64 0)), [], 4940, [], [], [hHost 3 (some 15), hVms 2 (some 6), hTlb 4, cpuS8, hMemS 0]⟩⟩
def hy8E : Rk := ⟨hyA8, [hMemS 0, cpuS8, hVms 2 (some 6), hHost 3 (some 15), hTlb 4], 5, ⟨.p (.one (kBo true)), [], 105930, [], [], [hHost 3 (some 15), hVms 2 (some 6), hTlb 4, cpuS8, hMemS 0]⟩⟩
theorem okAb0 : chk run8 31 ab0E = true := by decide +kernel
theorem okAb8 : chk run8 31 ab8E = true := by decide +kernel
theorem okHy8 : chk run8 42 hy8E = true := by decide +kernel
noncomputable def orc9 : CallF := orElse (only 31 (orR (mt ab8E) (mt ab0E))) (orElse (only 42 (mt hy8E)) orc8)
theorem sound9 : Sound orc9 := sound_or (sound_only (orR_ok (mt_ok soundR8 okAb8) (mt_ok soundR8 okAb0))) (sound_or (sound_only (mt_ok soundR8 okHy8)) sound8)
noncomputable def run9 : CallF := xCall cfg0 orc9 hiF topD
theorem soundR9 : Sound run9 := sound_run sound9 topD
end Go.Proofs.YtmlpimckfneliaaGreat.Ev
