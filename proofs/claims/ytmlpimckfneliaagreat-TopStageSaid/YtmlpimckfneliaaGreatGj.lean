/- A run reckoned beforehand: all that the host's tables map; the accesses of the page where the code is. No conditions. -/
import Derived.Test.YtmlpimckfneliaaGreatGi
namespace Go.Proofs.YtmlpimckfneliaaGreat.Ev
/-- memory: the tables' words; all else stands for anything -/
def hMemS (b : Nat) : Nat × CB := (b, ⟨37, rowW (wd 40 64) 88 0 ++ symsF 0 232, some 1⟩)
def two2 : Nat → Nat → List CA
  | 0, _ => []
  | k + 1, i => kI64 i :: kI64 i :: two2 k (Nat.succ i)
def allE : Rk := ⟨[.p (.ag [.slu 0 0 320 0]), aI 0], [hMemS 0], 1, ⟨.tup [.one (.slu 255 0 24 0), .one (kI64 0)], [(255, ⟨219, two2 24 16, some 2⟩)], 426, [], [], [hMemS 0]⟩⟩
theorem okAll' : chk run7 104 allE = true := by decide +kernel
/-- page 0's own words of stage 1 -/
def wPage0 (i : Nat) : Nat := match i with
  | 192 => 102403
  | 200 => 106499
  | 208 => 110595
  | 216 => 123907
  | _ => 0
def memP : Nat → Nat → Nat → List CA
  | 0, _, _ => []
  | k + 1, i, j => match Nat.beq (wPage0 i) 0 with
    | true => .sym j :: memP k (Nat.succ i) (Nat.succ j)
    | false => kU64 (wPage0 i) :: memP k (Nat.succ i) j
def hMemP (b : Nat) : Nat × CB := (b, ⟨37, rowW (wd 40 64) 88 0 ++ memP 232 88 0, some 1⟩)
def fullP : CP := .ag [kI64 0, kBo true, kBo true, kBo true, kM 0, kBo true]
def pgA (t : CP) : List CV := [.p (.ag [.slu 0 0 320 0]), .p t, .p (.ag [kBo true, kI64 24, kI64 0]), .p (.ag [kBo true, kI64 0, kI64 0]), aI 0, aI 2, .p fullP]
def noFlt : CP := .ag [kI64 0, kI64 0, kI64 0, kBo false, kI64 0]
def way6 (f : Nat) : List CA := [kI64 0, kI64 1, kI64 2, kI64 6, kI64 f]
def pg1E : Rk := ⟨pgA (.ag [nilS, nilS]), [hMemP 0], 2, ⟨.tup [.one (kI64 30), noFlt, .ag [tlbS 902, nilS], .one (.slu 824 0 24 0), .one (kI64 0)], [(824, ⟨3, way6 24 ++ (way6 25 ++ (way6 26 ++ (way6 27 ++ [kI64 0, kI64 1, kI64 2, kI64 6]))), some 1⟩), hTlb 902], 904, [], [], [hMemP 0]⟩⟩
def pg2E : Rk := ⟨pgA (.ag [tlbS 1, nilS]), [hMemP 0, hTlb 1], 2, ⟨.tup [.one (kI64 30), noFlt, .ag [tlbS 292, nilS], .one (.slu 180 0 1 0), .one (kI64 0)], [(180, ⟨3, [kI64 27], some 1⟩), hTlb 292], 294, [], [], [hTlb 1, hMemP 0]⟩⟩
theorem okPg1 : chk run7 220 pg1E = true := by decide +kernel
theorem okPg2 : chk run7 220 pg2E = true := by decide +kernel
noncomputable def orc8 : CallF := orElse (only 104 (mt allE)) (orElse (only 220 (orR (mt pg1E) (mt pg2E))) orc7)
theorem sound8 : Sound orc8 := sound_or (sound_only (mt_ok soundR7 okAll')) (sound_or (sound_only (orR_ok (mt_ok soundR7 okPg1) (mt_ok soundR7 okPg2))) sound7)
noncomputable def run8 : CallF := xCall cfg0 orc8 hiF topD
theorem soundR8 : Sound run8 := sound_run sound8 topD
end Go.Proofs.YtmlpimckfneliaaGreat.Ev
