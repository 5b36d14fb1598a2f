/- OldslabAll at every input. -/
import Derived.Test.YtknieebmcpgppaaDoorOldI
import Derived.Test.YtknieebmcpgppaaDoorOldG
set_option linter.unusedSimpArgs false
namespace Go.Proofs.YtknieebmcpgppaaDoor.Old
open Go.RowKit Go.Proofs.YtknieebmcpgppaaDoor.Aid Go.Proofs.YtknieebmcpgppaaDoor.Bit
set_option maxRecDepth 100000 in
theorem all_law (w : World) (b c t : Int) (hT : Tab w) (hb : -9223372036854775808 ≤ b ∧ b ≤ 9223372036854775807) :
    Calls Tryd.prog 7 #[.int .i64 b, .int .i64 c, .int .i64 t] w fun e w' => e = .returned (.bool true) ∧ Below w.heap.size w w' := by
  by_cases hn : newOk b c
  · obtain ⟨b', c', rfl, rfl, hn'⟩ := nat_args hn
    exact all_yes w b' c' t hT hn'
  · have HT := Lib.hid hT
    have HN := Lib.hid (fun W => new_no W b c (by omega) hn)
    clear hT hn hb
    go_enter Tryd.func7, Tryd.ntmps7
    go_wp2_with fail
    refine (alive_calls w HT.out).mono ?_
    rintro e w1 ⟨rfl, hb1⟩
    have H1 := Lib.hid hb1
    clear hb1
    go_wp2_with fail
    refine (HN.out w1).mono ?_
    rintro e w2 ⟨rfl, hb⟩
    have H2 := Lib.hid (below_then H1.out hb)
    clear hb H1
    go_wp2_with fail
    go_ret
    exact ⟨rfl, H2.out⟩
end Go.Proofs.YtknieebmcpgppaaDoor.Old
