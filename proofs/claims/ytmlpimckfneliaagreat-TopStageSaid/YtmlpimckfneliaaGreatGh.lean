/- A run reckoned beforehand: the program's own first tables, page by page. No conditions. -/
import Derived.Test.YtmlpimckfneliaaGreatGg
namespace Go.Proofs.YtmlpimckfneliaaGreat.Ev
/-- own tables of 24 frames: so many pages are mapped -/
def wo (f i : Nat) : Nat := match Nat.blt i 24 with
  | true => wd 24 f i
  | false => match Nat.blt (Nat.sub i 24) f with
    | true => Nat.add 1219 (Nat.mul (Nat.sub i 24) 4096)
    | false => 0
/-- all are mapped, so many are told as they are to be -/
def wp (p i : Nat) : Nat := match Nat.blt i 24 with
  | true => wd 24 64 i
  | false => match Nat.blt (Nat.sub i 24) p with
    | true => wPg 24 (Nat.sub i 24)
    | false => match Nat.blt (Nat.sub i 24) 64 with
      | true => Nat.add 1219 (Nat.mul (Nat.sub i 24) 4096)
      | false => 0
def ownNm (f : Nat) : Nat × Nat := match f with
  | 0 => (41, 58)
  | f => match Nat.beq (Nat.mod f 8) 0 with
    | true => (Nat.add 39 (lk (Nat.succ f)), Nat.add 50 (lk (Nat.succ f)))
    | false => (Nat.add 44 (lk (Nat.succ f)), Nat.add 52 (lk (Nat.succ f)))
def ownA (f : Nat) : List CV := match f with
  | 0 => [.p (.ag [.sl 0 0 192 192]), aI 0, .p (.one (.slu 1 0 15 0)), aI 0, .p (dLeaf 0)]
  | f => [.p (.ag [slW 0 24]), aI 0, .p (.one (.slu 1 0 (lk f) 0)), aI f, .p (dLeaf f)]
def ownH (f : Nat) : Hp := match f with
  | 0 => [(1, ⟨3, nums 15 1, some 1⟩), (0, ⟨37, rowW (fun _ => 0) 192 0, none⟩)]
  | f => [hNum 1 (lk f) (lf f), hMem 0 24 (wo f)]
def ownE (f : Nat) : Rk := match ownNm f with
  | (b, c) => frcN b fun b => frcN c fun c => ⟨ownA f, ownH f, 2, ⟨.tup [.ag [slW b 24], .one (.slu c 0 (lk (Nat.succ f)) 0), .one (kI64 0)], [hNum c (lk (Nat.succ f)) (lf (Nat.succ f)), hMem b 24 (wo (Nat.succ f))], Nat.succ c, [], [], ownH f⟩⟩
def opE (f : Nat) : Rk := ⟨[.p (.ag [slW 0 24]), aI 0, aI f, aI 3, .p (putD 24 f)], [hMem 0 24 (wp f)], 1, ⟨.tup [.ag [slW 41 24], .one (kI64 0)], [hMem 41 24 (wp (Nat.succ f))], 48, [], [], [hMem 0 24 (wp f)]⟩⟩
theorem hOwn_0 : (List.range' 0 16).all (fun i => chk run3 91 (ownE i)) = true := by decide +kernel
theorem hOwn_1 : (List.range' 16 16).all (fun i => chk run3 91 (ownE i)) = true := by decide +kernel
theorem hOwn_2 : (List.range' 32 16).all (fun i => chk run3 91 (ownE i)) = true := by decide +kernel
theorem hOwn_3 : (List.range' 48 16).all (fun i => chk run3 91 (ownE i)) = true := by decide +kernel
theorem okOwn : ∀ i, i < 64 → chk run3 91 (ownE i) = true := fun i hi => (all_two (m := 16) (n := 48) (all_range hOwn_0) (all_two (m := 16) (n := 32) (all_range hOwn_1) (all_two (m := 16) (n := 16) (all_range hOwn_2) (all_range hOwn_3)))) i (Nat.zero_le _) (by omega)
theorem hOp_0 : (List.range' 0 32).all (fun i => chk run3 176 (opE i)) = true := by decide +kernel
theorem hOp_1 : (List.range' 32 32).all (fun i => chk run3 176 (opE i)) = true := by decide +kernel
theorem okOp : ∀ i, i < 64 → chk run3 176 (opE i) = true := fun i hi => (all_two (m := 32) (n := 32) (all_range hOp_0) (all_range hOp_1)) i (Nat.zero_le _) (by omega)
noncomputable def orc6 : CallF := orElse (only 91 (fam (keyMp 192) 64 ownE)) (orElse (only 176 (fam (keyPt 192) 64 opE)) orc5)
theorem sound6 : Sound orc6 := sound_or (sound_only (fam_ok soundR3 okOwn)) (sound_or (sound_only (fam_ok soundR3 okOp)) sound5)
noncomputable def run6 : CallF := xCall cfg0 orc6 hiF topD
theorem soundR6 : Sound run6 := sound_run sound6 topD
end Go.Proofs.YtmlpimckfneliaaGreat.Ev
