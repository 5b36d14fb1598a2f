/- OldslabCalls: the row, and the tied card round it: at every input the law returns true. -/
import Derived.Test.YtknieebmcpgppaaDoorBitK
import Derived.Test.YtknieebmcpgppaaDoorOldS2
import Derived.Test.YtknieebmcpgppaaDoorTie
import Derived.Test.YtknieebmcpgppaaDoorCards
import Derived.SevenTiedAt
namespace Go.Proofs.YtknieebmcpgppaaDoor.OldF3
open Go.ChangeShapes Go.WideShapes Go.ChangeAt Go.RowKit Go.Proofs.YtknieebmcpgppaaDoor.Aid Go.Proofs.YtknieebmcpgppaaDoor.Bit Go.Proofs.YtknieebmcpgppaaDoor.BitK Go.Proofs.YtknieebmcpgppaaDoor.Old
theorem met (os : Os) (args : Array Value) : laidMetH Tryd.prog laidL ((World.doorLaid Tryd.prog 14 os).forCall (fun _ _ => 0) ⟨#[], args, []⟩).memory := door_met os args
set_option maxRecDepth 100000 in
theorem lifted (os : Os) (started : os.Started) (H : Type) (enc : TypeId × Value → H) :
    ReturnsInHanded {} Tryd.checked os 8 .any (fun w args => (Rows.oldslabCallsSpec.pre enc Tryd.prog Tryd.f8 [] false w args ∧ laidMetH Tryd.prog laidL w) ∧ sizedMet enc Tryd.prog Tryd.f8 (OpenSpec.ofChange Rows.oldslabCallsSpec) false w args)
      (Rows.oldslabCallsSpec.post enc Tryd.prog Tryd.f8 false true false false) := by
  refine returnsInHanded_of_change_and (C := Tryd.checked) (X := fun w _ => laidMetH Tryd.prog laidL w) (fun _ _ _ hh h => h.of_heap hh) own started (by kernel_rfl) Tryd.func8
    (ChangeSpec.witness_shaped (enc := enc) (C := Tryd.checked) (os := os) (X := fun w _ => laidMetH Tryd.prog laidL w) false (World.doorLaid Tryd.prog 14 os) #[.int .i64 0, .int .i64 0, .slice none 0 0, .slice none 0 0] 8 rfl (World.shaped_of_RefB (by kernel_rfl) (by kernel_rfl)) (by kernel_rfl) (by kernel_rfl) (by kernel_rfl) (met os _)) ?_
  intro W base args ds gs before hval0 hW _ _ hL _
  have hval : ∀ (j : Nat) t v, Tryd.f8.params[j]? = some t → args[j]? = some v → Value.okWide Tryd.prog W .any base t v := hval0
  obtain ⟨p, q, hA, hV, hps, hfz, hnd⟩ := id hW
  rw [Tryd.params8] at hA hval
  obtain ⟨v0, vs0, d0, ds0, p0, q0, hargs, rfl, rfl, h0, r0⟩ := trodAll_cons hA
  obtain ⟨v1, vs1, d1, ds1, p1, q1, rfl, rfl, rfl, h1, r1⟩ := trodAll_cons r0
  obtain ⟨v2, vs2, d2, ds2, p2, q2, rfl, rfl, rfl, h2, r2⟩ := trodAll_cons r1
  obtain ⟨v3, vs3, d3, ds3, p3, q3, rfl, rfl, rfl, h3, r3⟩ := trodAll_cons r2
  obtain ⟨rfl, rfl, rfl⟩ := trodAll_nil r3
  obtain rfl : args = #[v0, v1, v2, v3] := by cases args; simp_all
  obtain ⟨rfl, rfl⟩ := trodVars_none hV
  obtain ⟨a0, rfl, rfl, rfl, w0⟩ := open_int Tryd.underlying3 (hval 0 3 v0 rfl rfl) h0
  obtain ⟨a1, rfl, rfl, rfl, w1⟩ := open_int Tryd.underlying3 (hval 1 3 v1 rfl rfl) h1
  obtain ⟨A2, c2, xs2, rfl, hl2, hx2⟩ := open_nums (hval 2 30 v2 rfl rfl) h2
  obtain ⟨A3, c3, xs3, rfl, hl3, hx3⟩ := open_olds (hval 3 69 v3 rfl rfl) h3
  refine (calls_law W a0 a1 A2 c2 xs2 A3 c3 xs3 (tab_of_laid hL) hx2 hl2 hx3 hl3 (S_of_wf w0)).mono fun e W' ⟨he, hb⟩ => ?_
  exact ⟨_, he, law_post (by kernel_rfl) (by kernel_rfl) rfl rfl Tryd.underlying4 (fun es hes => by match es, hes with | [_, _, _, _], _ => rfl) hW rfl hb⟩
end Go.Proofs.YtknieebmcpgppaaDoor.OldF3
namespace Go.Proofs.YtknieebmcpgppaaDoor
open Go Go.RowKit
theorem oldslabCalls_holds : Rows.OldslabCallsSaid :=
  OpenClaim.holds_of_wide 8 Tryd.f8 rfl rfl rfl rfl rfl rfl rfl ⟨rfl, rfl, rfl, rfl, rfl⟩ rfl rfl rfl rfl rfl (by kernel_rfl) Tryd.func8 (by kernel_rfl)
    (of_decide_eq_true (by kernel_rfl)) (by unfold Func.isWrapper; first | (rw [if_pos (by decide +kernel)]; kernel_rfl) | (rw [if_neg (by decide +kernel)]; exact ⟨rfl, rfl⟩))
    (fun os started H enc _ => OldF3.lifted os started H enc)
theorem oldslabCallsCard_holds : Rows.OldslabCallsCardSaid :=
  Claim7.holds_tied_plain_at .later [] [.data] true (true, "11aca0b7a15b639284f9279b48e8520800e3c8c2f756a23233a275202fb0f33e") false
    oldslabCalls_holds (fun _ h => by cases h) (by kernel_rfl) (fun _ h => by cases h) oldslabCalls_row_tie rfl ⟨rfl, rfl⟩ (by kernel_rfl) rfl
    (fun f fn hf hfn => by
      obtain rfl : f = 8 := Option.some.inj ((show Tryd.prog.funcNamed "underpin/underpinlaw13.OldslabCalls" = some 8 by kernel_rfl).symm.trans hf) |>.symm
      obtain rfl : fn = Tryd.f8 := (Option.some.inj (Tryd.func8.symm.trans hfn)).symm
      exact ⟨by kernel_rfl, fun j t ht => by
        rw [Tryd.params8] at ht
        have hm : t ∈ [3, 3, 30, 69] := by simpa using Array.mem_of_getElem? ht
        have hall : ([3, 3, 30, 69].all fun u => !Tryd.prog.wantsStandIn u) = true := by kernel_rfl
        exact (show Tryd.prog.wantsStandIn t = false by simpa using List.all_eq_true.1 hall t hm)⟩)
    (by kernel_rfl)
#print axioms oldslabCallsCard_holds
end Go.Proofs.YtknieebmcpgppaaDoor
