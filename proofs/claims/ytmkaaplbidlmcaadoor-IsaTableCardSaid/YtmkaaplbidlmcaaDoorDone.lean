/- For every input, sledgelaw3.IsaTable returns true and its argument reads afterwards as it read before; conditions: the listed package-level variables start as the text of the program lays them (the card ties them), and each string and slice handed in takes at most 2^47 - 4096 bytes. -/
import Derived.Test.YtmkaaplbidlmcaaDoorLaw
import Derived.Test.YtmkaaplbidlmcaaDoorTie
import Derived.Test.YtmkaaplbidlmcaaDoorCards
import Derived.SevenTiedAt
set_option linter.all false
namespace Go.Proofs.YtmkaaplbidlmcaaDoor
open Go
theorem isaTable_card : Rows.IsaTableCardSaid :=
  Claim7.holds_tied_plain_at .later [] [.data, .data, .data, .listed, .data] true (true, "34274055f048b49e3b6e67ab61e2ba722e5ec34671bbd733339c107761c50050") false
    isaTable_holds (fun _ h => by cases h) (by kernel_rfl) (fun _ h => by cases h) isaTable_row_tie rfl ⟨rfl, rfl⟩ (by kernel_rfl) rfl
    (fun f fn hf hfn => by
      obtain rfl : f = 3 := Option.some.inj ((show Tryd.prog.funcNamed "sledge/sledgelaw3.IsaTable" = some 3 by kernel_rfl).symm.trans hf) |>.symm
      obtain rfl : fn = Tryd.f3 := (Option.some.inj (Tryd.func3.symm.trans hfn)).symm
      exact ⟨by kernel_rfl, fun j t ht => by
        rw [Tryd.params3] at ht
        have hm : t ∈ [25] := by simpa using Array.mem_of_getElem? ht
        have hall : ([25].all fun u => !Tryd.prog.wantsStandIn u) = true := by kernel_rfl
        exact (show Tryd.prog.wantsStandIn t = false by simpa using List.all_eq_true.1 hall t hm)⟩)
    (by kernel_rfl)
#print axioms isaTable_card
end Go.Proofs.YtmkaaplbidlmcaaDoor
