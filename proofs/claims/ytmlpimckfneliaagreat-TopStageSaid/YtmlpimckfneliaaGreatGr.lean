/- TopStage's row: what the program itself must answer, one fact to a theorem. No conditions. -/
import Derived.Test.YtmlpimckfneliaaGreatRows
import Derived.ProofKit
import Derived.KernelRfl
namespace Go.Proofs.YtmlpimckfneliaaGreat.topStage
open Go
theorem fact1 : (Rows.topStageRow.inPlace == Tryz.pinned.checked.prog.inPlace 3) = true := by kernel_rfl
theorem fact2 : (Rows.topStageRow.unfollowed == Tryz.pinned.checked.prog.unfollowed 3) = true := by kernel_rfl
theorem fact3 : (Rows.topStageRow.recurses == Tryz.pinned.checked.prog.recurses 3) = true := by kernel_rfl
theorem fact4 : (Rows.topStageRow.named == Tryz.pinned.checked.prog.varsNamed 3) = true := by kernel_rfl
end Go.Proofs.YtmlpimckfneliaaGreat.topStage
