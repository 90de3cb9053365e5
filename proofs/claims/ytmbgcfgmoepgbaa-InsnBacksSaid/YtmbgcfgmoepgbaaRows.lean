/-
  No cell of these rows narrows 'for every input' (looked for: loops, veiled, ifaces, maps, wideKeys, modest, calm, conditions, laid).
  DERIVED. THE GIVEN ROWS OF THIS SEAT. 8 by the template 'for every input the law returns true; each argument reads behind the call as it read before'; 0 by the template 'total and deterministic' (their statements: YtmbgcfgmoepgbaaTotals.lean).
  GIVEN WITH THE SEED: the statements are not yours to turn. If you find one false, say at which input.
  Laid BY PROGRAM, IN A SANDBOX (cutbox-rows.mjs): the forced cells as the released guide's own fill.sh prints them over the translation 32fec3ef6682ad3a… (all of the seat's roots in one cut). By AI agents, Wed Nov 11 2026. No macro, syntax, notation, axiom, sorry.
-/
import Derived.Test.YtmbgcfgmoepgbaaChecked
import GoSem.Claim
import GoSem.ClaimJoined
import GoSem.ClaimMapViews
import Derived.JoinedTies
import Derived.KernelRfl
namespace Go.Proofs.Ytmbgcfgmoepgbaa
/- THE CELL 'sum', in the pinned program and in every row, IS THE sha256 OF THE DUMP (.gsa) THAT YtmbgcfgmoepgbaaProg.lean LOADS. Nothing in Lean hashes anything: it is a label: what it is worth is what the hold of that sum in a sandbox is worth. -/
noncomputable def Try.pinned : Pinned := { name := "ytmbgcfgmoepgbaa", sum := "32fec3ef6682ad3a9696adcf82dbc6c8d2e89ef77219d78abc1b4ffece1fd01e", checked := Try.checked }
namespace Rows
def none {H : Type} : Left H := { results := [], args := [] }

/-- 'bulwarklaw11.InsnJumps': WHATEVER THE INPUT: true; the input reads as it did. -/
def insnJumpsSpec : ChangeSpec := { name := "insnJumps", fn := fun _ => fun
  | [d] => { results := [.lit (.bool true)], args := [d] }
  | _ => none }
def insnJumpsRow : OpenClaim := { program := "ytmbgcfgmoepgbaa", sum := "32fec3ef6682ad3a9696adcf82dbc6c8d2e89ef77219d78abc1b4ffece1fd01e", func := "bulwark/bulwarklaw11.InsnJumps", spec := "insnJumps", unfollowed := true, recurses := true, apart := false }
def InsnJumpsSaid : Prop := insnJumpsRow.holds Try.pinned (OpenSpec.ofChange insnJumpsSpec)

/-- ITS FALSE NEIGHBOUR: 'it returns false'. Refute it at one input. -/
def insnJumpsWrong : ChangeSpec := { name := "insnJumps", fn := fun _ => fun
  | [d] => { results := [.lit (.bool false)], args := [d] }
  | _ => none }
def InsnJumpsWrongFalsely : Prop := insnJumpsRow.holds Try.pinned (OpenSpec.ofChange insnJumpsWrong)

/-- 'bulwarklaw11.InsnZeros': WHATEVER THE INPUT: true; the input reads as it did. -/
def insnZerosSpec : ChangeSpec := { name := "insnZeros", fn := fun _ => fun
  | [d] => { results := [.lit (.bool true)], args := [d] }
  | _ => none }
def insnZerosRow : OpenClaim := { program := "ytmbgcfgmoepgbaa", sum := "32fec3ef6682ad3a9696adcf82dbc6c8d2e89ef77219d78abc1b4ffece1fd01e", func := "bulwark/bulwarklaw11.InsnZeros", spec := "insnZeros", unfollowed := true, recurses := true, apart := false }
def InsnZerosSaid : Prop := insnZerosRow.holds Try.pinned (OpenSpec.ofChange insnZerosSpec)

/-- ITS FALSE NEIGHBOUR: 'it returns false'. Refute it at one input. -/
def insnZerosWrong : ChangeSpec := { name := "insnZeros", fn := fun _ => fun
  | [d] => { results := [.lit (.bool false)], args := [d] }
  | _ => none }
def InsnZerosWrongFalsely : Prop := insnZerosRow.holds Try.pinned (OpenSpec.ofChange insnZerosWrong)

/-- 'bulwarklaw11.InsnReads': WHATEVER THE INPUT: true; the input reads as it did. -/
def insnReadsSpec : ChangeSpec := { name := "insnReads", fn := fun _ => fun
  | [d] => { results := [.lit (.bool true)], args := [d] }
  | _ => none }
def insnReadsRow : OpenClaim := { program := "ytmbgcfgmoepgbaa", sum := "32fec3ef6682ad3a9696adcf82dbc6c8d2e89ef77219d78abc1b4ffece1fd01e", func := "bulwark/bulwarklaw11.InsnReads", spec := "insnReads", unfollowed := true, recurses := true, apart := false }
def InsnReadsSaid : Prop := insnReadsRow.holds Try.pinned (OpenSpec.ofChange insnReadsSpec)

/-- ITS FALSE NEIGHBOUR: 'it returns false'. Refute it at one input. -/
def insnReadsWrong : ChangeSpec := { name := "insnReads", fn := fun _ => fun
  | [d] => { results := [.lit (.bool false)], args := [d] }
  | _ => none }
def InsnReadsWrongFalsely : Prop := insnReadsRow.holds Try.pinned (OpenSpec.ofChange insnReadsWrong)

/-- 'bulwarklaw11.InsnWrites': WHATEVER THE INPUT: true; the input reads as it did. -/
def insnWritesSpec : ChangeSpec := { name := "insnWrites", fn := fun _ => fun
  | [d] => { results := [.lit (.bool true)], args := [d] }
  | _ => none }
def insnWritesRow : OpenClaim := { program := "ytmbgcfgmoepgbaa", sum := "32fec3ef6682ad3a9696adcf82dbc6c8d2e89ef77219d78abc1b4ffece1fd01e", func := "bulwark/bulwarklaw11.InsnWrites", spec := "insnWrites", unfollowed := true, recurses := true, apart := false }
def InsnWritesSaid : Prop := insnWritesRow.holds Try.pinned (OpenSpec.ofChange insnWritesSpec)

/-- ITS FALSE NEIGHBOUR: 'it returns false'. Refute it at one input. -/
def insnWritesWrong : ChangeSpec := { name := "insnWrites", fn := fun _ => fun
  | [d] => { results := [.lit (.bool false)], args := [d] }
  | _ => none }
def InsnWritesWrongFalsely : Prop := insnWritesRow.holds Try.pinned (OpenSpec.ofChange insnWritesWrong)

/-- 'bulwarklaw11.InsnInvals': WHATEVER THE INPUT: true; the input reads as it did. -/
def insnInvalsSpec : ChangeSpec := { name := "insnInvals", fn := fun _ => fun
  | [d] => { results := [.lit (.bool true)], args := [d] }
  | _ => none }
def insnInvalsRow : OpenClaim := { program := "ytmbgcfgmoepgbaa", sum := "32fec3ef6682ad3a9696adcf82dbc6c8d2e89ef77219d78abc1b4ffece1fd01e", func := "bulwark/bulwarklaw11.InsnInvals", spec := "insnInvals", unfollowed := true, recurses := true, apart := false }
def InsnInvalsSaid : Prop := insnInvalsRow.holds Try.pinned (OpenSpec.ofChange insnInvalsSpec)

/-- ITS FALSE NEIGHBOUR: 'it returns false'. Refute it at one input. -/
def insnInvalsWrong : ChangeSpec := { name := "insnInvals", fn := fun _ => fun
  | [d] => { results := [.lit (.bool false)], args := [d] }
  | _ => none }
def InsnInvalsWrongFalsely : Prop := insnInvalsRow.holds Try.pinned (OpenSpec.ofChange insnInvalsWrong)

/-- 'bulwarklaw11.InsnWaits': WHATEVER THE INPUT: true; the input reads as it did. -/
def insnWaitsSpec : ChangeSpec := { name := "insnWaits", fn := fun _ => fun
  | [d] => { results := [.lit (.bool true)], args := [d] }
  | _ => none }
def insnWaitsRow : OpenClaim := { program := "ytmbgcfgmoepgbaa", sum := "32fec3ef6682ad3a9696adcf82dbc6c8d2e89ef77219d78abc1b4ffece1fd01e", func := "bulwark/bulwarklaw11.InsnWaits", spec := "insnWaits", unfollowed := true, recurses := true, apart := false }
def InsnWaitsSaid : Prop := insnWaitsRow.holds Try.pinned (OpenSpec.ofChange insnWaitsSpec)

/-- ITS FALSE NEIGHBOUR: 'it returns false'. Refute it at one input. -/
def insnWaitsWrong : ChangeSpec := { name := "insnWaits", fn := fun _ => fun
  | [d] => { results := [.lit (.bool false)], args := [d] }
  | _ => none }
def InsnWaitsWrongFalsely : Prop := insnWaitsRow.holds Try.pinned (OpenSpec.ofChange insnWaitsWrong)

/-- 'bulwarklaw11.InsnCalls': WHATEVER THE INPUT: true; the input reads as it did. -/
def insnCallsSpec : ChangeSpec := { name := "insnCalls", fn := fun _ => fun
  | [d] => { results := [.lit (.bool true)], args := [d] }
  | _ => none }
def insnCallsRow : OpenClaim := { program := "ytmbgcfgmoepgbaa", sum := "32fec3ef6682ad3a9696adcf82dbc6c8d2e89ef77219d78abc1b4ffece1fd01e", func := "bulwark/bulwarklaw11.InsnCalls", spec := "insnCalls", unfollowed := true, recurses := true, apart := false }
def InsnCallsSaid : Prop := insnCallsRow.holds Try.pinned (OpenSpec.ofChange insnCallsSpec)

/-- ITS FALSE NEIGHBOUR: 'it returns false'. Refute it at one input. -/
def insnCallsWrong : ChangeSpec := { name := "insnCalls", fn := fun _ => fun
  | [d] => { results := [.lit (.bool false)], args := [d] }
  | _ => none }
def InsnCallsWrongFalsely : Prop := insnCallsRow.holds Try.pinned (OpenSpec.ofChange insnCallsWrong)

/-- 'bulwarklaw11.InsnBacks': WHATEVER THE INPUT: true; the input reads as it did. -/
def insnBacksSpec : ChangeSpec := { name := "insnBacks", fn := fun _ => fun
  | [d] => { results := [.lit (.bool true)], args := [d] }
  | _ => none }
def insnBacksRow : OpenClaim := { program := "ytmbgcfgmoepgbaa", sum := "32fec3ef6682ad3a9696adcf82dbc6c8d2e89ef77219d78abc1b4ffece1fd01e", func := "bulwark/bulwarklaw11.InsnBacks", spec := "insnBacks", unfollowed := true, recurses := true, apart := false }
def InsnBacksSaid : Prop := insnBacksRow.holds Try.pinned (OpenSpec.ofChange insnBacksSpec)

/-- ITS FALSE NEIGHBOUR: 'it returns false'. Refute it at one input. -/
def insnBacksWrong : ChangeSpec := { name := "insnBacks", fn := fun _ => fun
  | [d] => { results := [.lit (.bool false)], args := [d] }
  | _ => none }
def InsnBacksWrongFalsely : Prop := insnBacksRow.holds Try.pinned (OpenSpec.ofChange insnBacksWrong)

/- THE SECOND FORM. 'bulk': how many values and letters a reading holds, each counted each time it is reached (what is shared counts as often as it is met; a slice's spare places count too). A statement '..UptoSaid' is the law's where the arguments, and the package variables that the reading takes, are together of bulk at most 1048576: NARROWER than '..Said'. Prove '..Said' where nothing that the law and all that it calls make is longer than what came in: it says more and counts as full. Else prove '..UptoSaid'. A law counts once. -/
mutual
def uptoBulk {H : Type} : DataW H → Nat
  | .lit (.string bytes) => bytes.length + 1
  | .lit _ => 1
  | .nil => 1
  | .ptr d => uptoBulk d + 1
  | .slice elems spare => uptoBulkAll elems + uptoBulkAll spare + 1
  | .agg parts => uptoBulkAll parts + 1
  | .iface _ d => uptoBulk d + 1
  | .map entries => uptoBulkEntries entries + 1
  | .held _ => 1
def uptoBulkAll {H : Type} : List (DataW H) → Nat
  | [] => 0
  | d :: r => uptoBulk d + uptoBulkAll r
def uptoBulkEntries {H : Type} : List (Lit × DataW H) → Nat
  | [] => 0
  | x :: r => uptoBulkEntry x + uptoBulkEntries r
def uptoBulkEntry {H : Type} : Lit × DataW H → Nat
  | (.string bytes, d) => bytes.length + uptoBulk d + 1
  | (_, d) => uptoBulk d + 1
 end
def uptoSmall : (H : Type) → List (DataW H) → Bool := fun _ ds => decide (uptoBulkAll ds ≤ 1048576)
def OpenSpec.upto (s : _root_.Go.ChangeSpec) : _root_.Go.OpenSpec := { _root_.Go.OpenSpec.ofChange s with cond := some uptoSmall }

/-- 'bulwarklaw11.InsnJumps', WHERE WHAT IT READS IS OF BULK AT MOST 1048576: true; the input reads as it did. -/
def insnJumpsUptoRow : OpenClaim := { program := "ytmbgcfgmoepgbaa", sum := "32fec3ef6682ad3a9696adcf82dbc6c8d2e89ef77219d78abc1b4ffece1fd01e", func := "bulwark/bulwarklaw11.InsnJumps", spec := "insnJumps", unfollowed := true, recurses := true, apart := false, narrowed := true }
def InsnJumpsUptoSaid : Prop := insnJumpsUptoRow.holds Try.pinned (OpenSpec.upto insnJumpsSpec)

/-- 'bulwarklaw11.InsnZeros', WHERE WHAT IT READS IS OF BULK AT MOST 1048576: true; the input reads as it did. -/
def insnZerosUptoRow : OpenClaim := { program := "ytmbgcfgmoepgbaa", sum := "32fec3ef6682ad3a9696adcf82dbc6c8d2e89ef77219d78abc1b4ffece1fd01e", func := "bulwark/bulwarklaw11.InsnZeros", spec := "insnZeros", unfollowed := true, recurses := true, apart := false, narrowed := true }
def InsnZerosUptoSaid : Prop := insnZerosUptoRow.holds Try.pinned (OpenSpec.upto insnZerosSpec)

/-- 'bulwarklaw11.InsnReads', WHERE WHAT IT READS IS OF BULK AT MOST 1048576: true; the input reads as it did. -/
def insnReadsUptoRow : OpenClaim := { program := "ytmbgcfgmoepgbaa", sum := "32fec3ef6682ad3a9696adcf82dbc6c8d2e89ef77219d78abc1b4ffece1fd01e", func := "bulwark/bulwarklaw11.InsnReads", spec := "insnReads", unfollowed := true, recurses := true, apart := false, narrowed := true }
def InsnReadsUptoSaid : Prop := insnReadsUptoRow.holds Try.pinned (OpenSpec.upto insnReadsSpec)

/-- 'bulwarklaw11.InsnWrites', WHERE WHAT IT READS IS OF BULK AT MOST 1048576: true; the input reads as it did. -/
def insnWritesUptoRow : OpenClaim := { program := "ytmbgcfgmoepgbaa", sum := "32fec3ef6682ad3a9696adcf82dbc6c8d2e89ef77219d78abc1b4ffece1fd01e", func := "bulwark/bulwarklaw11.InsnWrites", spec := "insnWrites", unfollowed := true, recurses := true, apart := false, narrowed := true }
def InsnWritesUptoSaid : Prop := insnWritesUptoRow.holds Try.pinned (OpenSpec.upto insnWritesSpec)

/-- 'bulwarklaw11.InsnInvals', WHERE WHAT IT READS IS OF BULK AT MOST 1048576: true; the input reads as it did. -/
def insnInvalsUptoRow : OpenClaim := { program := "ytmbgcfgmoepgbaa", sum := "32fec3ef6682ad3a9696adcf82dbc6c8d2e89ef77219d78abc1b4ffece1fd01e", func := "bulwark/bulwarklaw11.InsnInvals", spec := "insnInvals", unfollowed := true, recurses := true, apart := false, narrowed := true }
def InsnInvalsUptoSaid : Prop := insnInvalsUptoRow.holds Try.pinned (OpenSpec.upto insnInvalsSpec)

/-- 'bulwarklaw11.InsnWaits', WHERE WHAT IT READS IS OF BULK AT MOST 1048576: true; the input reads as it did. -/
def insnWaitsUptoRow : OpenClaim := { program := "ytmbgcfgmoepgbaa", sum := "32fec3ef6682ad3a9696adcf82dbc6c8d2e89ef77219d78abc1b4ffece1fd01e", func := "bulwark/bulwarklaw11.InsnWaits", spec := "insnWaits", unfollowed := true, recurses := true, apart := false, narrowed := true }
def InsnWaitsUptoSaid : Prop := insnWaitsUptoRow.holds Try.pinned (OpenSpec.upto insnWaitsSpec)

/-- 'bulwarklaw11.InsnCalls', WHERE WHAT IT READS IS OF BULK AT MOST 1048576: true; the input reads as it did. -/
def insnCallsUptoRow : OpenClaim := { program := "ytmbgcfgmoepgbaa", sum := "32fec3ef6682ad3a9696adcf82dbc6c8d2e89ef77219d78abc1b4ffece1fd01e", func := "bulwark/bulwarklaw11.InsnCalls", spec := "insnCalls", unfollowed := true, recurses := true, apart := false, narrowed := true }
def InsnCallsUptoSaid : Prop := insnCallsUptoRow.holds Try.pinned (OpenSpec.upto insnCallsSpec)

/-- 'bulwarklaw11.InsnBacks', WHERE WHAT IT READS IS OF BULK AT MOST 1048576: true; the input reads as it did. -/
def insnBacksUptoRow : OpenClaim := { program := "ytmbgcfgmoepgbaa", sum := "32fec3ef6682ad3a9696adcf82dbc6c8d2e89ef77219d78abc1b4ffece1fd01e", func := "bulwark/bulwarklaw11.InsnBacks", spec := "insnBacks", unfollowed := true, recurses := true, apart := false, narrowed := true }
def InsnBacksUptoSaid : Prop := insnBacksUptoRow.holds Try.pinned (OpenSpec.upto insnBacksSpec)

end Rows
end Go.Proofs.Ytmbgcfgmoepgbaa
