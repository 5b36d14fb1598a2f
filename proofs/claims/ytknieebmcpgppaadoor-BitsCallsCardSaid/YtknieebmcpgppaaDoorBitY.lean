/- THE TIED CARD of BitsCalls. -/
import Derived.Test.YtknieebmcpgppaaDoorBitK
import Derived.Test.YtknieebmcpgppaaDoorTie
import Derived.Test.YtknieebmcpgppaaDoorCards
import Derived.SevenTiedAt
namespace Go.Proofs.YtknieebmcpgppaaDoor
open Go
theorem bitsCallsCard_holds : Rows.BitsCallsCardSaid :=
  Claim7.holds_tied_plain_at .later [] [.data] true (true, "11aca0b7a15b639284f9279b48e8520800e3c8c2f756a23233a275202fb0f33e") false
    bitsCalls_holds (fun _ h => by cases h) (by kernel_rfl) (fun _ h => by cases h) bitsCalls_row_tie rfl ⟨rfl, rfl⟩ (by kernel_rfl) rfl
    (fun f fn hf hfn => by
      obtain rfl : f = 3 := Option.some.inj ((show Tryd.prog.funcNamed "underpin/underpinlaw03.BitsCalls" = some 3 by kernel_rfl).symm.trans hf) |>.symm
      obtain rfl : fn = Tryd.f3 := (Option.some.inj (Tryd.func3.symm.trans hfn)).symm
      exact ⟨by kernel_rfl, fun j t ht => by
        rw [Tryd.params3] at ht
        have hm : t ∈ [3, 22, 3, 3, 4] := by simpa using Array.mem_of_getElem? ht
        have hall : ([3, 22, 3, 3, 4].all fun u => !Tryd.prog.wantsStandIn u) = true := by kernel_rfl
        exact (show Tryd.prog.wantsStandIn t = false by simpa using List.all_eq_true.1 hall t hm)⟩)
    (by kernel_rfl)
#print axioms bitsCallsCard_holds
end Go.Proofs.YtknieebmcpgppaaDoor
