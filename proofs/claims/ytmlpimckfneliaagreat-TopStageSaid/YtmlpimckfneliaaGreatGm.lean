/- A run reckoned beforehand: the second step, whatever is asked. No conditions. -/
import Derived.Test.YtmlpimckfneliaaGreatGk
import Derived.Test.YtmlpimckfneliaaGreatGl
namespace Go.Proofs.YtmlpimckfneliaaGreat.Ev
noncomputable def orcR : CallF := orElse orcV orc9
theorem soundR : Sound orcR := sound_or soundV sound9
noncomputable def runR : CallF := xCall cfg0 orcR hiF topD
theorem soundRR : Sound runR := sound_run soundR topD
/-- memory's words but those that are asked about -/
def wR (i : Nat) : Nat := match Nat.blt i 88 with
  | true => wd 40 64 i
  | false => match i with
    | 192 => 102403
    | 200 => 106499
    | 208 => 110595
    | 216 => 123907
    | 240 => 720578140397371392
    | 241 => 994836480
    | _ => 0
def rowQ : Nat → Nat → Nat → List CA
  | 0, _, _ => []
  | k + 1, i, j => match Nat.beq i 209 || Nat.beq i 217 with
    | true => .sym j :: rowQ k (Nat.succ i) (Nat.succ j)
    | false => kU64 (wR i) :: rowQ k (Nat.succ i) j
def hMemQ (b : Nat) : Nat × CB := (b, ⟨37, rowQ 320 0 3, some 1⟩)
/-- the registers of the second step: what was loaded, what the trap told stand for anything -/
def rgQ (y pc : Nat) : List CA := [kU64 0, kU64 0, kU64 y, .sym 0, kU64 0, kU64 0, kU64 0, kU64 0, kU64 pc, kU64 98304, kU64 1, kU64 0, kU64 0, .sym 1, .sym 2]
def hMach (b m c v h : Nat) : Nat × CB := (b, ⟨55, [.slu m 0 320 0, .slu c 0 1 0, .slu v 0 4 0, .slu h 0 1 0, kBo false], none⟩)
def s2C (b y pc e : Nat) : Nat × CB := hCpu b (rgQ y pc) (tlbS e) (some 19)
def s2Obs : CP := .ag ([kI64 0, kI64 0, kI64 1, kI64 2, kI64 0, kI64 0, kI64 512, kI64 0, kI64 0, kI64 0, kBo false, kI64 0, kI64 0, .slu 5307 0 2 0] ++ rgQ 512 8)
def s2E : Rk := ⟨[.p (.one (.ptr 0 0)), .p fullP], [hMach 0 1 2 3 4, s2C 2 64 4 5, hMemQ 1, hVms 3 (some 6), hHost 4 (some 15), hTlb 5], 6,
  ⟨.p s2Obs, [hHost 5320 (some 15), hVms 5318 (some 6), hTlb 5301, s2C 5316 512 8 5301, hMemQ 5003, (5307, ⟨3, [kI64 27, kI64 30], some 1⟩)], 111250, [0], [hMach 0 5003 5316 5318 5320],
    [hHost 4 (some 15), hVms 3 (some 6), hTlb 5, s2C 2 64 4 5, hMemQ 1, hMach 0 1 2 3 4]⟩⟩
theorem okS2 : chk runR 8 s2E = true := by decide +kernel
-- what the steps ask again and again
def bootE : Rk := ⟨[aI 40, aI 1], [], 0, ⟨.p (.ag [.slu 101658 0 320 0, .sl 101660 0 1 1, .sl 101661 0 4 4, .sl 101662 0 1 1]),
  [hHost 101662 none, hVms 101661 none, hCpu 101660 host0 nilS none, hMem 101658 40 (wd 40 64)], 101663, [], [], []⟩⟩
def insE : Rk := ⟨[.p (.one (.lit (.int .u32 994836480)))], [], 0, ⟨.tup [.ag [kI64 7, kI64 3, kI64 2, kI64 3, kI64 0], .one (kI64 0)], [], 0, [], [], []⟩⟩
def hMemA (b : Nat) : Nat × CB := (b, ⟨37, symsF 0 320, some 1⟩)
def hWay (p : Nat) : Nat × CB := (0, ⟨413, [.slu 1 0 320 0, tlbS 2, nilS, kI64 0, kBo true, kBo true, kBo true, kM 0, kBo true, kBo true, kI64 24, kI64 0, kBo true, kI64 0, kI64 0, kI64 p, kI64 0, nilS], none⟩)
def mayE (p : Nat) : Rk := ⟨[.p (.one (.ptr 0 0))], [hWay p, hTlb 2, hMemA 1], 3, ⟨.p (.one (kBo true)), [], 44, [], [], [hTlb 2, hMemA 1, hWay p]⟩⟩
def entO : CP := .ag [kI64 0, kI64 0, kI64 0, kBo false, kI64 0, kI64 0, kI64 0, kI64 0, kBo false, kBo false, kBo false, kBo false, kBo false, kI64 0]
def tlbP : CV := .p (.ag [tlbS 0, nilS])
def whoE (p : Nat) : Rk := ⟨[tlbP, aI 0, aI 0, aI p, aI 0], [hTlb 0], 1, ⟨.tup [entO, .one (kI64 3)], [], 50, [], [], [hTlb 0]⟩⟩
def walE (p l f : Nat) : Rk := ⟨[tlbP, aI 0, aI 0, aI p], [hTlb 0], 1, ⟨.tup [.ag (enW l f), .one (kI64 0)], [], 41, [], [], [hTlb 0]⟩⟩
def own (t : Nat) : Bool := Nat.ble 16 t && Nat.blt t 40
/-- through stage 2 -/
def neE (t : Nat) : Rk := ⟨[.p (.ag [.slu 0 0 320 0]), .p (.ag [kBo true, kI64 0, kI64 0]), aI t, aI 0], [hMemS 0], 1, match own t with
  | true => ⟨.tup [.ag [kI64 t, kI64 t, kBo true, kBo true, kBo true, kBo true, kBo false, kI64 0, kI64 3], noFlt, .one (.slu 66 0 4 0), .one (kI64 0)], [(66, ⟨3, [kI64 0, kI64 1, kI64 2, kI64 (Nat.add 3 (Nat.div t 8))], some 1⟩)], 84, [], [], [hMemS 0]⟩
  | false => ⟨.tup [.ag [kI64 0, kI64 0, kBo false, kBo false, kBo false, kBo false, kBo false, kI64 0, kI64 0], .ag [kI64 2, kI64 2, kI64 3, kBo false, kI64 t], .one (.slu 66 0 4 0), .one (kI64 0)], [(66, ⟨3, [kI64 0, kI64 1, kI64 2, kI64 (Nat.add 3 (Nat.div t 8))], some 1⟩)], 82, [], [], [hMemS 0]⟩⟩
theorem okBoot : chk runR 5 bootE = true := by decide +kernel
theorem okIns : chk runR 136 insE = true := by decide +kernel
theorem okMay1 : chk runR 283 (mayE 1) = true := by decide +kernel
theorem okMay8 : chk runR 283 (mayE 8) = true := by decide +kernel
theorem okWho1 : chk runR 334 (whoE 1) = true := by decide +kernel
theorem okWho8 : chk runR 334 (whoE 8) = true := by decide +kernel
theorem okWal1 : chk runR 385 (walE 1 3 27) = true := by decide +kernel
theorem okWal8 : chk runR 385 (walE 8 2 26) = true := by decide +kernel
theorem okNe : (List.range' 0 64).all (fun t => chk runR 363 (neE t)) = true := by decide +kernel
def keyNe (args : List CV) : Option Nat := match args with
  | [_, _, .p (.one (.lit (.int _ (.ofNat t)))), _] => some t
  | _ => none
noncomputable def orcS : CallF := orElse (only 8 (mt s2E)) (orElse (only 363 (fam keyNe 64 neE)) (orElse (only 283 (orR (mt (mayE 1)) (mt (mayE 8))))
  (orElse (only 334 (orR (mt (whoE 1)) (mt (whoE 8)))) (orElse (only 385 (orR (mt (walE 1 3 27)) (mt (walE 8 2 26))))
  (orElse (only 5 (mt bootE)) (orElse (only 136 (mt insE)) orcR))))))
theorem soundS : Sound orcS := sound_or (sound_only (mt_ok soundRR okS2)) (sound_or (sound_only (fam_ok soundRR (all_lt (all_range okNe)))) (sound_or (sound_only (orR_ok (mt_ok soundRR okMay1) (mt_ok soundRR okMay8)))
  (sound_or (sound_only (orR_ok (mt_ok soundRR okWho1) (mt_ok soundRR okWho8))) (sound_or (sound_only (orR_ok (mt_ok soundRR okWal1) (mt_ok soundRR okWal8)))
  (sound_or (sound_only (mt_ok soundRR okBoot)) (sound_or (sound_only (mt_ok soundRR okIns)) soundR))))))
end Go.Proofs.YtmlpimckfneliaaGreat.Ev
