/- AsmMoved: its tied card. Whatever the texts and the number: the law returns true, and both read as they did. The listed variables are tied to the program's text. -/
import Derived.Test.YtnlpekhohakkbaaGreatDoorMovedRow
import Derived.Test.YtnlpekhohakkbaaGreatDoorCards
import Derived.Test.YtnlpekhohakkbaaGreatDoorTie
import Derived.SevenTiedAt
namespace Go.Proofs.YtnlpekhohakkbaaGreatDoor
open Go.ChangeShapes Go.WideShapes Go.ChangeAt Go.RowKit Thole

/-- THE TIED CARD. -/
theorem moved_card : Rows.AsmMovedCardSaid :=
  Claim7.holds_tied_plain_at .later [] _ true _ true
    moved_holds (fun _ h => by cases h) (by kernel_rfl) (fun _ h => by cases h) asmMoved_row_tie rfl ⟨rfl, rfl⟩ (by kernel_rfl) rfl
    (fun f fn hf hfn => by
      obtain rfl : f = 3 := Option.some.inj ((show Tryz.prog.funcNamed "thole/tholelaw08.AsmMoved" = some 3 by kernel_rfl).symm.trans hf) |>.symm
      obtain rfl : fn = Tryz.f3 := (Option.some.inj (Tryz.func3.symm.trans hfn)).symm
      exact ⟨by kernel_rfl, fun j t ht => by
        rw [Tryz.params3] at ht
        have hm : t ∈ [22, 3] := by simpa using Array.mem_of_getElem? ht
        have hall : ([22, 3].all fun u => !Tryz.prog.wantsStandIn u) = true := by kernel_rfl
        exact (show Tryz.prog.wantsStandIn t = false by simpa using List.all_eq_true.1 hall t hm)⟩)
    (by kernel_rfl)
#print axioms moved_card

end Go.Proofs.YtnlpekhohakkbaaGreatDoor
