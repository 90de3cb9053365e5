/- A run reckoned beforehand: the second step, whatever is asked. No conditions. -/
import Derived.Test.YtmlpimckfneliaaGreatGk
import Derived.Test.YtmlpimckfneliaaGreatGl
namespace Go.Proofs.YtmlpimckfneliaaGreat.Ev
noncomputable def orcR : CallF := orElse orcV orc9
theorem soundR : Sound orcR := sound_or soundV sound9
noncomputable def runR : CallF := xCall cfg0 orcR hiF topD
theorem soundRR : Sound runR := sound_run soundR topD
/-- memory's words but those that are asked about -/
def wR (i : Nat) : Nat := match Nat.blt i 88 with
  | true => wd 40 64 i
  | false => match i with
    | 192 => 102403
    | 200 => 106499
    | 208 => 110595
    | 216 => 123907
    | 240 => 720578140397371392
    | 241 => 994836480
    | _ => 0
def rowQ : Nat → Nat → Nat → List CA
  | 0, _, _ => []
  | k + 1, i, j => match Nat.beq i 209 || Nat.beq i 217 with
    | true => .sym j :: rowQ k (Nat.succ i) (Nat.succ j)
    | false => kU64 (wR i) :: rowQ k (Nat.succ i) j
def hMemQ (b : Nat) : Nat × CB := (b, ⟨37, rowQ 320 0 3, some 1⟩)
/-- the registers of the second step: what was loaded, what the trap told stand for anything -/
def rgQ (y pc : Nat) : List CA := [kU64 0, kU64 0, kU64 y, .sym 0, kU64 0, kU64 0, kU64 0, kU64 0, kU64 pc, kU64 98304, kU64 1, kU64 0, kU64 0, .sym 1, .sym 2]
def hMach (b m c v h : Nat) : Nat × CB := (b, ⟨55, [.slu m 0 320 0, .slu c 0 1 0, .slu v 0 4 0, .slu h 0 1 0, kBo false], none⟩)
def s2C (b y pc e : Nat) : Nat × CB := hCpu b (rgQ y pc) (tlbS e) (some 19)
def s2Obs : CP := .ag ([kI64 0, kI64 0, kI64 1, kI64 2, kI64 0, kI64 0, kI64 512, kI64 0, kI64 0, kI64 0, kBo false, kI64 0, kI64 0, .slu 5307 0 2 0] ++ rgQ 512 8)
def s2E : Rk := ⟨[.p (.one (.ptr 0 0)), .p fullP], [hMach 0 1 2 3 4, s2C 2 64 4 5, hMemQ 1, hVms 3 (some 6), hHost 4 (some 15), hTlb 5], 6,
  ⟨.p s2Obs, [hHost 5320 (some 15), hVms 5318 (some 6), hTlb 5301, s2C 5316 512 8 5301, hMemQ 5003, (5307, ⟨3, [kI64 27, kI64 30], some 1⟩)], 111250, [0], [hMach 0 5003 5316 5318 5320],
    [hHost 4 (some 15), hVms 3 (some 6), hTlb 5, s2C 2 64 4 5, hMemQ 1, hMach 0 1 2 3 4]⟩⟩
theorem okS2 : chk runR 8 s2E = true := by decide +kernel
noncomputable def orcS : CallF := orElse (only 8 (mt s2E)) orcR
theorem soundS : Sound orcS := sound_or (sound_only (mt_ok soundRR okS2)) soundR
end Go.Proofs.YtmlpimckfneliaaGreat.Ev
