/- StrtabAgain is proved whole: for every input, in whatever memory, the law returns true and leaves its arguments as they were. Conditions: the two tables of unicode/utf8 read as the program's text lays them (tied). -/
import Derived.Test.YtdgjgekefpfgiaaDoorRwAgn
import Derived.Test.YtdgjgekefpfgiaaDoorCards
import Derived.Test.YtdgjgekefpfgiaaDoorTie
import Derived.SevenTiedAt
namespace Go.Proofs.YtdgjgekefpfgiaaDoor
open Go
set_option maxRecDepth 100000 in
theorem strtabAgain_card : Rows.StrtabAgainCardSaid :=
  Claim7.holds_tied_plain_at .later [] [.data, .pinned] true Rows.strtabAgainCard.stood.harness true
    strtabAgain.over (fun _ h => by cases h) (by kernel_rfl) (fun _ h => by cases h) strtabAgain_row_tie rfl ⟨rfl, rfl⟩ mainIs_sum (by kernel_rfl)
    (fun f fn hf hfn => by
      obtain rfl : f = 8 := Option.some.inj ((show Tryd.prog.funcNamed "diorama/dioramalaw06.StrtabAgain" = some 8 by kernel_rfl).symm.trans hf) |>.symm
      obtain rfl : fn = Tryd.f8 := (Option.some.inj (Tryd.func8.symm.trans hfn)).symm
      exact ⟨by kernel_rfl, fun j t ht => by
        have hall : (Tryd.f8.params.toList.all fun u => !Tryd.prog.wantsStandIn u) = true := by kernel_rfl
        have hm : t ∈ Tryd.f8.params.toList := Array.mem_toList_iff.2 (Array.mem_of_getElem? ht)
        exact (show Tryd.prog.wantsStandIn t = false by simpa using List.all_eq_true.1 hall t hm)⟩)
    (by kernel_rfl)
#print axioms strtabAgain_card
end Go.Proofs.YtdgjgekefpfgiaaDoor
