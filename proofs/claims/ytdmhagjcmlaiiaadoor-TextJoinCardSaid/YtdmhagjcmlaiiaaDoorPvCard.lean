/- The card of TextJoin: for every two strings the law returns true, and the strings read as before; the library's tables that the row lists are tied to the program's text. -/
import Derived.Test.YtdmhagjcmlaiiaaDoorPvJoin
import Derived.Test.YtdmhagjcmlaiiaaDoorCards
import Derived.Test.YtdmhagjcmlaiiaaDoorTie
import Derived.SevenTiedAt
namespace Go.Proofs.YtdmhagjcmlaiiaaDoor
open Go
theorem TextJoin_card : Rows.TextJoinCardSaid :=
  Claim7.holds_tied_plain_at .later [] [.data, .data, .data, .data, .pinned] true (true, "612eb88d7625afd70db5383a724c3fdfbaa00bd527f0c0c7da88c91db0cdab27") false
    TextJoin_holds (fun _ h => by cases h) (by kernel_rfl) (fun _ h => by cases h) textJoin_row_tie rfl ⟨rfl, rfl⟩ (by kernel_rfl) rfl
    (fun f fn hf hfn => by
      obtain rfl : f = 3 := Option.some.inj ((show Tryd.prog.funcNamed "ndjq/ndjqlaw08.TextJoin" = some 3 by kernel_rfl).symm.trans hf) |>.symm
      obtain rfl : fn = Tryd.f3 := (Option.some.inj (Tryd.func3.symm.trans hfn)).symm
      exact ⟨by kernel_rfl, fun j t ht => by
        rw [Tryd.params3] at ht
        have hm : t ∈ [9, 9] := by simpa using Array.mem_of_getElem? ht
        have hall : ([9, 9].all fun u => !Tryd.prog.wantsStandIn u) = true := by kernel_rfl
        exact (show Tryd.prog.wantsStandIn t = false by simpa using List.all_eq_true.1 hall t hm)⟩)
    (by kernel_rfl)
end Go.Proofs.YtdmhagjcmlaiiaaDoor
