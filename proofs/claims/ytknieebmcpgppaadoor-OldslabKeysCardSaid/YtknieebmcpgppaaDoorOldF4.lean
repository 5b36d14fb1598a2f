/- OldslabKeys: the row, and the tied card round it: at every input the law returns true. -/
import Derived.Test.YtknieebmcpgppaaDoorBitK
import Derived.Test.YtknieebmcpgppaaDoorOldZb
import Derived.Test.YtknieebmcpgppaaDoorTie
import Derived.Test.YtknieebmcpgppaaDoorCards
import Derived.SevenTiedAt
namespace Go.Proofs.YtknieebmcpgppaaDoor.OldF4
open Go.ChangeShapes Go.WideShapes Go.ChangeAt Go.RowKit Go.Proofs.YtknieebmcpgppaaDoor.Aid Go.Proofs.YtknieebmcpgppaaDoor.Bit Go.Proofs.YtknieebmcpgppaaDoor.BitK Go.Proofs.YtknieebmcpgppaaDoor.Old
theorem met (os : Os) (args : Array Value) : laidMetH Tryd.prog laidL ((World.doorLaid Tryd.prog 14 os).forCall (fun _ _ => 0) ⟨#[], args, []⟩).memory := door_met os args
set_option maxRecDepth 100000 in
theorem lifted (os : Os) (started : os.Started) (H : Type) (enc : TypeId × Value → H) :
    ReturnsInHanded {} Tryd.checked os 9 .any (fun w args => (Rows.oldslabKeysSpec.pre enc Tryd.prog Tryd.f9 [] false w args ∧ laidMetH Tryd.prog laidL w) ∧ sizedMet enc Tryd.prog Tryd.f9 (OpenSpec.ofChange Rows.oldslabKeysSpec) false w args)
      (Rows.oldslabKeysSpec.post enc Tryd.prog Tryd.f9 false true false false) := by
  refine returnsInHanded_of_change_and (C := Tryd.checked) (X := fun w _ => laidMetH Tryd.prog laidL w) (fun _ _ _ hh h => h.of_heap hh) own started (by kernel_rfl) Tryd.func9
    (ChangeSpec.witness_shaped (enc := enc) (C := Tryd.checked) (os := os) (X := fun w _ => laidMetH Tryd.prog laidL w) false (World.doorLaid Tryd.prog 14 os) #[.int .i64 0, .slice none 0 0, .slice none 0 0] 8 rfl (World.shaped_of_RefB (by kernel_rfl) (by kernel_rfl)) (by kernel_rfl) (by kernel_rfl) (by kernel_rfl) (met os _)) ?_
  intro W base args ds gs before hval0 hW _ _ hL _
  have hval : ∀ (j : Nat) t v, Tryd.f9.params[j]? = some t → args[j]? = some v → Value.okWide Tryd.prog W .any base t v := hval0
  obtain ⟨p, q, hA, hV, hps, hfz, hnd⟩ := id hW
  rw [Tryd.params9] at hA hval
  obtain ⟨v0, vs0, d0, ds0, p0, q0, hargs, rfl, rfl, h0, r0⟩ := trodAll_cons hA
  obtain ⟨v1, vs1, d1, ds1, p1, q1, rfl, rfl, rfl, h1, r1⟩ := trodAll_cons r0
  obtain ⟨v2, vs2, d2, ds2, p2, q2, rfl, rfl, rfl, h2, r2⟩ := trodAll_cons r1
  obtain ⟨rfl, rfl, rfl⟩ := trodAll_nil r2
  obtain rfl : args = #[v0, v1, v2] := by cases args; simp_all
  obtain ⟨rfl, rfl⟩ := trodVars_none hV
  obtain ⟨a0, rfl, rfl, rfl, w0⟩ := open_int Tryd.underlying3 (hval 0 3 v0 rfl rfl) h0
  obtain ⟨A1, c1, xs1, rfl, hl1, hx1⟩ := open_nums (hval 1 30 v1 rfl rfl) h1
  obtain ⟨A2, c2, xs2, rfl, hl2, hx2⟩ := open_nums (hval 2 30 v2 rfl rfl) h2
  refine (keys_law W a0 A1 c1 xs1 A2 c2 xs2 (tab_of_laid hL) hx1 hl1 hx2 hl2).mono fun e W' ⟨he, hb⟩ => ?_
  exact ⟨_, he, law_post (by kernel_rfl) (by kernel_rfl) rfl rfl Tryd.underlying4 (fun es hes => by match es, hes with | [_, _, _], _ => rfl) hW rfl hb⟩
end Go.Proofs.YtknieebmcpgppaaDoor.OldF4
namespace Go.Proofs.YtknieebmcpgppaaDoor
open Go Go.RowKit
theorem oldslabKeys_holds : Rows.OldslabKeysSaid :=
  OpenClaim.holds_of_wide 9 Tryd.f9 rfl rfl rfl rfl rfl rfl rfl ⟨rfl, rfl, rfl, rfl, rfl⟩ rfl rfl rfl rfl rfl (by kernel_rfl) Tryd.func9 (by kernel_rfl)
    (of_decide_eq_true (by kernel_rfl)) (by unfold Func.isWrapper; first | (rw [if_pos (by decide +kernel)]; kernel_rfl) | (rw [if_neg (by decide +kernel)]; exact ⟨rfl, rfl⟩))
    (fun os started H enc _ => OldF4.lifted os started H enc)
theorem oldslabKeysCard_holds : Rows.OldslabKeysCardSaid :=
  Claim7.holds_tied_plain_at .later [] [.data] true (true, "11aca0b7a15b639284f9279b48e8520800e3c8c2f756a23233a275202fb0f33e") false
    oldslabKeys_holds (fun _ h => by cases h) (by kernel_rfl) (fun _ h => by cases h) oldslabKeys_row_tie rfl ⟨rfl, rfl⟩ (by kernel_rfl) rfl
    (fun f fn hf hfn => by
      obtain rfl : f = 9 := Option.some.inj ((show Tryd.prog.funcNamed "underpin/underpinlaw13.OldslabKeys" = some 9 by kernel_rfl).symm.trans hf) |>.symm
      obtain rfl : fn = Tryd.f9 := (Option.some.inj (Tryd.func9.symm.trans hfn)).symm
      exact ⟨by kernel_rfl, fun j t ht => by
        rw [Tryd.params9] at ht
        have hm : t ∈ [3, 30, 30] := by simpa using Array.mem_of_getElem? ht
        have hall : ([3, 30, 30].all fun u => !Tryd.prog.wantsStandIn u) = true := by kernel_rfl
        exact (show Tryd.prog.wantsStandIn t = false by simpa using List.all_eq_true.1 hall t hm)⟩)
    (by kernel_rfl)
#print axioms oldslabKeysCard_holds
end Go.Proofs.YtknieebmcpgppaaDoor
