/- OldslabKeys: all inputs. -/
import Derived.Test.YtknieebmcpgppaaDoorOldZ
set_option linter.unusedSimpArgs false
namespace Go.Proofs.YtknieebmcpgppaaDoor.Old
open Go.RowKit Go.Proofs.YtknieebmcpgppaaDoor.Aid Go.Proofs.YtknieebmcpgppaaDoor.Bit
theorem keys_law (w : World) (c : Int) (A1 : Option Addr) (c1 : Nat) (va : List Int) (A2 : Option Addr) (c2 : Nat) (vb : List Int) (hT : Tab w) (ha : Nums w A1 c1 va) (_ : va.length ≤ maxLen) (hb : Nums w A2 c2 vb) (_ : vb.length ≤ maxLen) :
    Calls Tryd.prog 9 #[.int .i64 c, .slice A1 va.length c1, .slice A2 vb.length c2] w fun e w' => e = .returned (.bool true) ∧ Below w.heap.size w w' := by
  by_cases h1 : 100 < va.length ∨ 100 < vb.length
  · exact keys_short w c A1 c1 va A2 c2 vb hT h1
  · by_cases hn : newOk 0 c
    · obtain ⟨k, rfl⟩ := Int.eq_ofNat_of_zero_le (newOk_c hn).1
      exact keys_yes w k A1 c1 va A2 c2 vb hT ha hb (by omega) (by omega) hn
    · exact keys_no w c A1 c1 va A2 c2 vb hT ha hb (by omega) (by omega) hn
end Go.Proofs.YtknieebmcpgppaaDoor.Old
