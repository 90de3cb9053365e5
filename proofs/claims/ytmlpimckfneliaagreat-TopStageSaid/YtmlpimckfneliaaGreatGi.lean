/- A run reckoned beforehand: what is remembered may be. No conditions. -/
import Derived.Test.YtmlpimckfneliaaGreatGg
namespace Go.Proofs.YtmlpimckfneliaaGreat.Ev
def nilS : CA := .lit (.slice none 0 0)
def enM (f : Nat) : List CA := [kI64 2, kI64 0, kI64 0, kBo true, kI64 f, kI64 0, kI64 f, kI64 0, kBo true, kBo true, kBo true, kBo true, kBo false, kI64 0]
def enW (l f : Nat) : List CA := [kI64 3, kI64 0, kI64 0, kBo false, kI64 0, kI64 l, kI64 f, kI64 0, kBo false, kBo false, kBo false, kBo false, kBo false, kI64 0]
/-- the entries from the first step on -/
def tlb8 : List CA := enM 24 ++ (enM 25 ++ (enW 1 25 ++ (enM 26 ++ (enW 2 26 ++ (enM 27 ++ (enW 3 27 ++ enM 30))))))
def hTlb (b : Nat) : Nat × CB := (b, ⟨193, tlb8, some 14⟩)
def tlbS (b : Nat) : CA := .slu b 0 8 0
def ckE : Rk := ⟨[.p (.ag [tlbS 0, nilS])], [hTlb 0], 1, ⟨.p (.one (kI64 0)), [], 26, [], [], [hTlb 0]⟩⟩
theorem okCk : chk run5 124 ckE = true := by decide +kernel
noncomputable def orc7 : CallF := orElse (only 124 (mt ckE)) orc5
theorem sound7 : Sound orc7 := sound_or (sound_only (mt_ok soundR5 okCk)) sound5
noncomputable def run7 : CallF := xCall cfg0 orc7 hiF topD
theorem soundR7 : Sound run7 := sound_run sound7 topD
end Go.Proofs.YtmlpimckfneliaaGreat.Ev
