/- For every corpus that comes in, TopConstituents returns true and leaves the corpus as it was; the listed variables are tied to the program's text. -/
import Derived.Test.YthjcmodhleoocaaGreatDoorTie
import Derived.Test.YthjcmodhleoocaaGreatDoorCards
import Derived.Test.YthjcmodhleoocaaGreatDoorMT11
import Derived.SevenTiedAt
set_option linter.unusedVariables false
set_option linter.unusedSimpArgs false
set_option linter.unusedSectionVars false
/- ZCard -/
namespace Go.Proofs.YthjcmodhleoocaaGreatDoor
open Go
theorem topConstituents_holds : Rows.TopConstituentsCardSaid :=
  Claim7.holds_tied_plain_at .later [] [.data, .pinned] true (true, "eb16cb3edaa2603ae889afb0192df011147d2bf2d058ccb73105bbf845cd6a8c") true
    topConstituents_row (fun _ h => by cases h) (by kernel_rfl) (fun _ h => by cases h) topConstituents_row_tie rfl ⟨rfl, rfl⟩ (by kernel_rfl) rfl
    (fun f fn hf hfn => by
      obtain rfl : f = 3 := Option.some.inj ((show Tryz.prog.funcNamed "corpora/corporatop.TopConstituents" = some 3 by kernel_rfl).symm.trans hf) |>.symm
      obtain rfl : fn = Tryz.f3 := (Option.some.inj (Tryz.func3.symm.trans hfn)).symm
      exact ⟨by kernel_rfl, fun j t ht => by
        rw [Tryz.params3] at ht
        have hm : t ∈ [30] := by simpa using Array.mem_of_getElem? ht
        have hall : ([30].all fun u => !Tryz.prog.wantsStandIn u) = true := by kernel_rfl
        exact (show Tryz.prog.wantsStandIn t = false by simpa using List.all_eq_true.1 hall t hm)⟩)
    (by kernel_rfl)
end Go.Proofs.YthjcmodhleoocaaGreatDoor
