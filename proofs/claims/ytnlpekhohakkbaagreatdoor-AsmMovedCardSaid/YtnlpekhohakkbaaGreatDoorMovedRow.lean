/- AsmMoved: its row. Whatever the texts and the number: the law returns true, and both read as they did. Condition: the listed variables hold what the program's text lays. -/
import Derived.Test.YtnlpekhohakkbaaGreatDoorMovedLift
namespace Go.Proofs.YtnlpekhohakkbaaGreatDoor
open Go.ChangeShapes Go.WideShapes Go.ChangeAt Go.RowKit Thole

set_option maxRecDepth 100000 in
set_option maxHeartbeats 40000000 in
theorem moved_closed : joinedFacts Tryz.prog 3 Tryz.f3 Rows.asmMovedSpec Rows.asmMovedRow = true := by
  unfold joinedFacts
  simp only [Bool.and_eq_true]
  repeat' apply And.intro
  all_goals as_aux_lemma => kernel_rfl
set_option maxRecDepth 100000 in
theorem moved_named : Tryz.prog.funcNamed Rows.asmMovedRow.func = some 3 := by kernel_rfl
theorem moved_inst : Tryz.f3.isInstance Tryz.prog Rows.asmMovedRow.origin Rows.asmMovedRow.targs := of_decide_eq_true (by kernel_rfl)
theorem moved_wrap : Tryz.f3.isWrapper Tryz.prog Rows.asmMovedRow.wrapper Rows.asmMovedRow.mainSum := by
  unfold Func.isWrapper
  rw [if_neg (of_decide_eq_false (by kernel_rfl))]
  exact ⟨rfl, rfl⟩

set_option maxRecDepth 100000 in
theorem moved_holds : Rows.AsmMovedSaid :=
  OpenClaim.holds_of_wide 3 Tryz.f3 rfl rfl rfl rfl rfl rfl rfl ⟨rfl, rfl, rfl, rfl, rfl⟩ rfl rfl rfl rfl rfl moved_named Tryz.func3 moved_closed
    moved_inst moved_wrap
    (fun os started H enc _ => moved_lifted os started H enc)

end Go.Proofs.YtnlpekhohakkbaaGreatDoor
