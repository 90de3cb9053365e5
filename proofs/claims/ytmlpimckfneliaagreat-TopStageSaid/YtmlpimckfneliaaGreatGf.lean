/- A run reckoned beforehand: the reference's tables, page by page. No conditions. -/
import Derived.Test.YtmlpimckfneliaaGreatGe
namespace Go.Proofs.YtmlpimckfneliaaGreat.Ev
/-- frames left once so many pages are laid: the first, how many -/
def lf (f : Nat) : Nat := Nat.add 3 (Nat.div (Nat.add f 7) 8)
def lk (f : Nat) : Nat := Nat.sub 16 (lf f)
def wOne : CA := kI64 0
def hMem (b n : Nat) (g : Nat → Nat) : Nat × CB := (b, ⟨37, rowW g (Nat.mul 8 n) 0, some 1⟩)
def hNum (b k i : Nat) : Nat × CB := (b, ⟨3, nums k i, some 1⟩)
def slW (b n : Nat) : CA := .slu b 0 (Nat.mul 8 n) 0
/-- what Map makes of a page: where its names lie -/
def mapNm (n f : Nat) : Nat × Nat := match f with
  | 0 => (Nat.add (Nat.mul 112 n) 93, Nat.add (Nat.mul 112 n) 118)
  | f => match Nat.beq (Nat.mod f 8) 0 with
    | true => (Nat.add (Nat.mul 48 n) (Nat.add 51 (Nat.mul 2 (lk (Nat.succ f)))), Nat.add (Nat.mul 48 n) (Nat.add 52 (Nat.mul 4 (lk (Nat.succ f)))))
    | false => (Nat.add (Nat.mul 16 n) (Nat.add 42 (Nat.mul 2 (lk (Nat.succ f)))), Nat.add (Nat.mul 16 n) (Nat.add 43 (Nat.mul 4 (lk (Nat.succ f)))))
def mapA (n f : Nat) : List CV := match f with
  | 0 => [.p (.ag [.sl 0 0 (Nat.mul 8 n) (Nat.mul 8 n)]), aI 0, .p (.one (.sl 1 0 15 15)), aI 0, .p (dLeaf 0)]
  | f => [.p (.ag [slW 0 n]), aI 0, .p (.one (.slu 1 0 (lk f) 0)), aI f, .p (dLeaf f)]
def mapH (n f : Nat) : Hp := match f with
  | 0 => [(1, ⟨3, nums 15 1, none⟩), (0, ⟨37, rowW (fun _ => 0) (Nat.mul 8 n) 0, none⟩)]
  | f => [hNum 1 (lk f) (lf f), hMem 0 n (wd n f)]
def mapE (n f : Nat) : Rk := match mapNm n f with
  | (b, c) => frcN b fun b => frcN c fun c => ⟨mapA n f, mapH n f, 2, ⟨.tup [.ag [slW b n], .one (.slu c 0 (lk (Nat.succ f)) 0), .one (kI64 0)], [hNum c (lk (Nat.succ f)) (lf (Nat.succ f)), hMem b n (wm n f)], Nat.succ c, [], [], mapH n f⟩⟩
def putD (n f : Nat) : CP := match Nat.blt f 16 with
  | true => dNote 1
  | false => match Nat.blt f n with
    | true => dLeaf f
    | false => dNote 0
def putE (n f : Nat) : Rk := match Nat.add (Nat.mul 16 n) 26 with
  | b => frcN b fun b => ⟨[.p (.ag [slW 0 n]), aI 0, aI f, aI 3, .p (putD n f)], [hMem 0 n (wm n f)], 1, ⟨.tup [.ag [slW b n], .one (kI64 0)], [hMem b n (wd n (Nat.succ f))], Nat.add b 2, [], [], [hMem 0 n (wm n f)]⟩⟩
theorem hMp24_0 : (List.range' 0 10).all (fun i => chk run3 23 (mapE 24 i)) = true := by decide +kernel
theorem hMp24_1 : (List.range' 10 18).all (fun i => chk run3 23 (mapE 24 i)) = true := by decide +kernel
theorem hMp24_2 : (List.range' 28 18).all (fun i => chk run3 23 (mapE 24 i)) = true := by decide +kernel
theorem hMp24_3 : (List.range' 46 18).all (fun i => chk run3 23 (mapE 24 i)) = true := by decide +kernel
theorem okMp24 : ∀ i, i < 64 → chk run3 23 (mapE 24 i) = true := fun i hi => (all_two (m := 10) (n := 54) (all_range hMp24_0) (all_two (m := 18) (n := 36) (all_range hMp24_1) (all_two (m := 18) (n := 18) (all_range hMp24_2) (all_range hMp24_3)))) i (Nat.zero_le _) (by omega)
theorem hPt24_0 : (List.range' 0 32).all (fun i => chk run3 26 (putE 24 i)) = true := by decide +kernel
theorem hPt24_1 : (List.range' 32 32).all (fun i => chk run3 26 (putE 24 i)) = true := by decide +kernel
theorem okPt24 : ∀ i, i < 64 → chk run3 26 (putE 24 i) = true := fun i hi => (all_two (m := 32) (n := 32) (all_range hPt24_0) (all_range hPt24_1)) i (Nat.zero_le _) (by omega)
theorem hMp40_0 : (List.range' 0 10).all (fun i => chk run3 23 (mapE 40 i)) = true := by decide +kernel
theorem hMp40_1 : (List.range' 10 18).all (fun i => chk run3 23 (mapE 40 i)) = true := by decide +kernel
theorem hMp40_2 : (List.range' 28 18).all (fun i => chk run3 23 (mapE 40 i)) = true := by decide +kernel
theorem hMp40_3 : (List.range' 46 18).all (fun i => chk run3 23 (mapE 40 i)) = true := by decide +kernel
theorem okMp40 : ∀ i, i < 64 → chk run3 23 (mapE 40 i) = true := fun i hi => (all_two (m := 10) (n := 54) (all_range hMp40_0) (all_two (m := 18) (n := 36) (all_range hMp40_1) (all_two (m := 18) (n := 18) (all_range hMp40_2) (all_range hMp40_3)))) i (Nat.zero_le _) (by omega)
theorem hPt40_0 : (List.range' 0 32).all (fun i => chk run3 26 (putE 40 i)) = true := by decide +kernel
theorem hPt40_1 : (List.range' 32 32).all (fun i => chk run3 26 (putE 40 i)) = true := by decide +kernel
theorem okPt40 : ∀ i, i < 64 → chk run3 26 (putE 40 i) = true := fun i hi => (all_two (m := 32) (n := 32) (all_range hPt40_0) (all_range hPt40_1)) i (Nat.zero_le _) (by omega)
def keyMp (len : Nat) (args : List CV) : Option Nat := match args with
  | [.p (.ag (.slu _ _ l _ :: _)), _, _, .p (.one (.lit (.int _ (.ofNat f)))), _] => (match Nat.beq l len with
    | true => some f
    | false => none)
  | [.p (.ag (.sl _ _ l _ :: _)), _, _, .p (.one (.lit (.int _ (.ofNat f)))), _] => (match Nat.beq l len with
    | true => some f
    | false => none)
  | _ => none
def keyPt (len : Nat) (args : List CV) : Option Nat := match args with
  | [.p (.ag (.slu _ _ l _ :: _)), _, .p (.one (.lit (.int _ (.ofNat f)))), _, _] => (match Nat.beq l len with
    | true => some f
    | false => none)
  | _ => none
noncomputable def orc4 : CallF := orElse (only 23 (orR (fam (keyMp 320) 64 (mapE 40)) (fam (keyMp 192) 64 (mapE 24)))) (orElse (only 26 (orR (fam (keyPt 320) 64 (putE 40)) (fam (keyPt 192) 64 (putE 24)))) orc3)
theorem sound4 : Sound orc4 := sound_or (sound_only (orR_ok (fam_ok soundR3 okMp40) (fam_ok soundR3 okMp24))) (sound_or (sound_only (orR_ok (fam_ok soundR3 okPt40) (fam_ok soundR3 okPt24))) sound3)
noncomputable def run4 : CallF := xCall cfg0 orc4 hiF topD
theorem soundR4 : Sound run4 := sound_run sound4 topD
end Go.Proofs.YtmlpimckfneliaaGreat.Ev
