/- TopStage answers true for every input: the given statement, without conditions. -/
import Derived.Test.YtmlpimckfneliaaGreatGp
import Derived.Test.YtmlpimckfneliaaGreatGs
import Derived.ProofKit
import Derived.Deep.Slices
import Derived.Deep.Fields
import Derived.Lib.SmallJoins
import Derived.Carry
namespace Go.Proofs.YtmlpimckfneliaaGreat.topStage
open Go.ChangeShapes Go.WideShapes Go.ChangeAt Go.RowKit Go.Deep

theorem own : ownKnob Tryz.prog.godebug = none := by kernel_rfl
theorem laidOut : laidOutB Tryz.prog = true := by kernel_rfl
theorem cellsStory : Tryz.prog.cellsOf 26 = 6 := by kernel_rfl
theorem typesStory : Tryz.prog.cellTypes Tryz.prog.depth 26 = some [22, 22, 23, 23, 3, 24] := by kernel_rfl
section
variable {P : Program} {W : World} {base : Nat} {t : TypeId} {v : Value}
theorem cell_slice {e : TypeId} (ht : P.underlying t = some (.slice e)) (h : Cell.okWide P W .any base t v) : ∃ a l c, v = .slice a l c :=
  okWide_slice (P := P) (w := W) (r := .any) (base := base) ht (by unfold Value.okWide; rw [ht]; exact h)
theorem cell_int {k : IntKind} (ht : P.underlying t = some (.int k)) (h : Cell.okWide P W .any base t v) : ∃ n, v = .int k n :=
  okWide_int (P := P) (w := W) (r := .any) (base := base) ht (by unfold Value.okWide; rw [ht]; exact h)
theorem struct_cells {fs : Array Field} (ht : P.underlying t = some (.struct fs)) (h : Value.okWide P W .any base t v) : ∃ cs, v = .agg cs ∧ cs.size = P.cellsOf t ∧ Row.okWide P W .any base t cs := by
  unfold Value.okWide at h
  rw [ht] at h
  exact h
theorem story_gen {fs : Array Field} {ti tu tn tp ei eu ep : TypeId} (ht : P.underlying t = some (.struct fs)) (h6 : P.cellsOf t = 6) (hts : P.cellTypes P.depth t = some [ti, ti, tu, tu, tn, tp])
    (hi : P.underlying ti = some (.slice ei)) (hu : P.underlying tu = some (.slice eu)) (hn : P.underlying tn = some (.int .i64)) (hp : P.underlying tp = some (.slice ep)) (h : Value.okWide P W .any base t v) :
    ∃ (a0 a1 a2 a3 a5 : Option Addr) (l0 l1 l2 l3 l5 c0 c1 c2 c3 c5 : Nat) (m : Int), v = .agg #[.slice a0 l0 c0, .slice a1 l1 c1, .slice a2 l2 c2, .slice a3 l3 c3, .int .i64 m, .slice a5 l5 c5] := by
  obtain ⟨cs, rfl, hsz, ts, hts', _, hc⟩ := struct_cells ht h
  rw [hts] at hts'
  injection hts' with hts'
  subst hts'
  rw [h6] at hsz
  obtain ⟨l⟩ := cs
  match l, hsz with
  | [x0, x1, x2, x3, x4, x5], _ =>
    obtain ⟨u0, e0, h0⟩ := hc 0 x0 rfl
    obtain ⟨u1, e1, h1⟩ := hc 1 x1 rfl
    obtain ⟨u2, e2, h2⟩ := hc 2 x2 rfl
    obtain ⟨u3, e3, h3⟩ := hc 3 x3 rfl
    obtain ⟨u4, e4, h4⟩ := hc 4 x4 rfl
    obtain ⟨u5, e5, h5⟩ := hc 5 x5 rfl
    cases e0
    cases e1
    cases e2
    cases e3
    cases e4
    cases e5
    obtain ⟨a0, l0, c0, rfl⟩ := cell_slice hi h0
    obtain ⟨a1, l1, c1, rfl⟩ := cell_slice hi h1
    obtain ⟨a2, l2, c2, rfl⟩ := cell_slice hu h2
    obtain ⟨a3, l3, c3, rfl⟩ := cell_slice hu h3
    obtain ⟨m, rfl⟩ := cell_int hn h4
    obtain ⟨a5, l5, c5, rfl⟩ := cell_slice hp h5
    exact ⟨a0, a1, a2, a3, a5, l0, l1, l2, l3, l5, c0, c1, c2, c3, c5, m, rfl⟩
end
set_option maxRecDepth 100000 in
theorem lifted (os : Os) (started : os.Started) (H : Type) (enc : TypeId × Value → H) :
    ReturnsInHanded {} Tryz.checked os 3 .any (Rows.topStageSpec.pre6 enc Tryz.prog Tryz.f3 Rows.topStageRow.domain false) (Rows.topStageSpec.post enc Tryz.prog Tryz.f3 false true false false) := by
  refine returnsInHanded_of_change (C := Tryz.checked) own started (by kernel_rfl) Tryz.func3
    (ChangeSpec.witness6 (enc := enc) (C := Tryz.checked) false ⟨#[], #[.agg #[.slice none 0 0, .slice none 0 0, .slice none 0 0, .slice none 0 0, .int .i64 0, .slice none 0 0]], []⟩ 8 (by kernel_rfl) (by kernel_rfl) (by kernel_rfl) (by kernel_rfl)) ?_
  intro W base args ds gs before hval0 hW hcnd _
  have hval : ∀ (j : Nat) t v, Tryz.f3.params[j]? = some t → args[j]? = some v → Value.okWide Tryz.prog W .any base t v := hval0
  have hW' := hW
  obtain ⟨p, q, hA0, hV, rfl, hfz, hnd⟩ := hW
  have hA : DataW.TrodAll enc Tryz.prog W 0 (fun _ => true) true Tryz.f3.params.toList args.toList ds p := hA0
  rw [Tryz.params3] at hA hval
  obtain ⟨v0, d0, rfl, rfl, h0⟩ := trodAll_one hA
  obtain ⟨rfl, rfl⟩ := trodVars_none hV
  clear hA0 hval0 hA hcnd
  simp only [List.append_nil] at hW'
  have hlt : ∀ x ∈ p, x.block < W.heap.size := fun x hx => by simpa using hW'.lt x hx
  obtain ⟨a0, a1, a2, a3, a5, l0, l1, l2, l3, l5, c0, c1, c2, c3, c5, m, rfl⟩ := story_gen Tryz.underlying26 cellsStory typesStory Tryz.underlying22 Tryz.underlying23 Tryz.underlying3 Tryz.underlying24 (hval 0 26 v0 rfl rfl)
  refine (Ev.top_any Ev.yesAll Ev.noAll a0 a1 a2 a3 a5 l0 l1 l2 l3 l5 c0 c1 c2 c3 c5 m W).mono fun e W' ⟨he, hB⟩ => ?_
  subst he
  refine ⟨_, rfl, _, _, _, [], p, [], by simpa using hW', ?_, ?_, ?_, hB.frame _, fun h => by cases h⟩
  · exact trodAll_mk1 (shut_bool Tryz.underlying4 _)
  · exact trodAll_mk1 (Below.trod laidOut (by kernel_rfl) (of_decide_eq_true (by kernel_rfl)) h0 hB hlt)
  · rfl

theorem proved : Rows.TopStageSaid :=
  OpenClaim.holds_of_wide 3 Tryz.f3 rfl rfl rfl rfl rfl rfl rfl ⟨rfl, rfl, rfl, rfl, rfl⟩ rfl rfl rfl rfl rfl (by kernel_rfl) Tryz.func3 facts
    (of_decide_eq_true (by kernel_rfl)) (by unfold Func.isWrapper; first | (rw [if_pos (by decide +kernel)]; kernel_rfl) | (rw [if_neg (by decide +kernel)]; exact ⟨rfl, rfl⟩))
    (fun os started H enc _ => lifted os started H enc)
#print axioms proved
end Go.Proofs.YtmlpimckfneliaaGreat.topStage
