/- TopStage's row: all that the program itself must answer. No conditions. -/
import Derived.Test.YtmlpimckfneliaaGreatGr
namespace Go.Proofs.YtmlpimckfneliaaGreat.topStage
open Go
set_option maxHeartbeats 100000000 in
set_option maxRecDepth 100000 in
theorem facts : joinedFacts Tryz.pinned.checked.prog 3 Tryz.f3 Rows.topStageSpec Rows.topStageRow = true := by
  unfold joinedFacts
  simp only [Bool.and_eq_true]
  repeat' apply And.intro
  all_goals first
    | with_reducible exact fact1
    | with_reducible exact fact2
    | with_reducible exact fact3
    | with_reducible exact fact4
    | (as_aux_lemma => kernel_rfl)
end Go.Proofs.YtmlpimckfneliaaGreat.topStage
