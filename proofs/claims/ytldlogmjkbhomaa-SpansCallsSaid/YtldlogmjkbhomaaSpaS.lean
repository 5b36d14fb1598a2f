/- The contract of slices.Replace as package spans calls it: where what comes is longer than what goes. -/
import Derived.Test.YtldlogmjkbhomaaSpaR
set_option linter.unusedSimpArgs false
namespace Go.Proofs.Ytldlogmjkbhomaa.Spa
open Go.RowKit Go.Proofs.Ytldlogmjkbhomaa.Aid
section
variable (w : World) (g c b cb : Nat) (xs v : List Rn) (hR : Recs encR 3 w RT g c xs) (hV : Recs encR 3 w RT b cb v) (hv : v ≠ []) (hl : xs.length + v.length ≤ 100000)
include hR hV hv hl
set_option maxHeartbeats 8000000 in
set_option maxRecDepth 100000 in
/-- In place. -/
theorem replace_more (i j : Nat) (hbg : b ≠ g) (hi : i < j) (hij : j < i + v.length) (hj : j < xs.length) (hroom : i + v.length + (xs.length - j) ≤ c) :
    Calls Try.prog 87 #[.slice (some ⟨g, 0, none⟩) xs.length c, .int .i64 i, .int .i64 j, .slice (some ⟨b, 0, none⟩) v.length cb] w (Repl w g (xs.take i ++ v ++ xs.drop j)) := by
  have hcap := hR.cap
  have hcut := hR.cut encR_len (show i ≤ xs.length by omega)
  have hcl : (xs.take i).length = i := by rw [List.length_take]; omega
  have hdl : (xs.drop j).length = xs.length - j := by rw [List.length_drop]
  have hmv : v.length ≠ 0 := fun e => hv (List.eq_nil_of_length_eq_zero e)
  have hmc := hR.max
  have hln : (xs.take i ++ v ++ xs.drop j).length = i + v.length + (xs.length - j) := by simp; omega
  have HLn := Lib.hid hln
  have h2 := fun (W : World) (hW : Recs encR 3 W RT g c (xs.take i)) => recs_two (v := v) (d := xs.drop j) hW (by rw [hcl, hdl]; omega)
  rw [hcl] at h2
  generalize xs.take i ++ v ++ xs.drop j = ys at hln h2 HLn ⊢
  have H2 := Lib.hid h2
  have HC := Lib.hid (And.intro hR (And.intro hV hbg))
  have hi0 : (0 : Int) ≤ (i : Int) := by omega
  have hij0 : (i : Int) < (j : Int) := by omega
  have hj1 : (j : Int) < (xs.length : Int) := by omega
  have hic0 : (i : Int) ≤ (c : Int) := by omega
  have hjl0 : (j : Int) ≤ (xs.length : Int) := by omega
  have hlc0 : (xs.length : Int) ≤ (c : Int) := by omega
  have hj0 : (0 : Int) ≤ (j : Int) := by omega
  have hje : ((i : Int) == (j : Int)) = false := by simp; omega
  have hjl : ((j : Int) == (xs.length : Int)) = false := by simp; omega
  have hcj : ¬ (c : Int) = (j : Int) := by omega
  have hci : ¬ (c : Int) = (i : Int) := by omega
  have htot : (i : Int) + (v.length : Int) + ((xs.length - j : Nat) : Int) = ((i + v.length + (xs.length - j) : Nat) : Int) := by omega
  have hsub : ((xs.length - j : Nat) : Int) = (xs.length : Int) - (j : Int) := by omega
  obtain ⟨tot, ht⟩ : ∃ tot, tot = i + v.length + (xs.length - j) := ⟨_, rfl⟩
  have ht1 : tot ≤ c := by omega
  have hw1 : IntKind.i64.wrap ((i : Int) + (v.length : Int)) = (i : Int) + (v.length : Int) := by rw [i64_wrap]; unfold wrap64; omega
  have hwr : IntKind.i64.wrap ((i : Int) + (v.length : Int) + ((xs.length : Int) - (j : Int))) = ((tot : Nat) : Int) := by rw [i64_wrap]; unfold wrap64; omega
  clear h2 hR hV hv hcut
  go_enter Try.func87, Try.ntmps87
  go_upto_region 9 with fail
  go_cut [10] (fun s wc => s = .int .i64 (tot : Nat) ∧ wc = w.drew)
  case first =>
    go_region_held3 (fun _ => True) (trivial) (fail)
    all_goals
      go_wp2_with fail
      go_meet
      exact ⟨congrArg (Value.int .i64) (by first | omega | rfl | exact hwr | rw [hw1, hwr]), rfl⟩
  case rest =>
  obtain ⟨rfl, rfl⟩ := hcut
  have H0 := Lib.hid (show Recs encR 3 w.drew RT g c xs ∧ Recs encR 3 w.drew RT b cb v ∧ Kept [g] w w.drew from ⟨HC.out.1.drew, HC.out.2.1.drew, (Kept.refl _ _).drew⟩)
  generalize w.drew = W0 at H0 ⊢
  have htv : ¬ (i : Int) + (v.length : Int) ≤ (j : Int) := by omega
  have htc : ¬ (c : Int) < (tot : Nat) := by omega
  have ht0 : (0 : Int) ≤ (tot : Nat) := by omega
  have htc2 : ((tot : Nat) : Int) ≤ (c : Nat) := by omega
  have hit : ((i : Nat) : Int) ≤ (tot : Nat) := by omega
  have htim : i + v.length + (xs.length - j) = tot := ht.symm
  have HTim := Lib.hid htim
  have hiv : ((i : Nat) : Int) + (v.length : Nat) ≤ (tot : Nat) := by omega
  have htd : tot - (i + v.length) = xs.length - j := by omega
  have hcv : ¬ (c : Int) = ((i : Nat) : Int) + (v.length : Nat) := by omega
  have hiv0 : (0 : Int) ≤ (i : Int) + (v.length : Int) := by omega
  have hcv2 : ¬ c = i + v.length := by omega
  have htn : ((i : Int) + (v.length : Int)).toNat = i + v.length := by omega
  clear hwr hsub htot ht htim htd
  go_upto_region 21 with fail
  have hov : ∀ la ca, (callFunc 102 #[.slice (some ⟨g, (i + v.length) * 3, none⟩) la ca, .slice (some ⟨b, 0, none⟩) v.length cb]).run Try.prog W0 = .ok (.value (.bool false)) W0 := fun la ca => by
    obtain ⟨cg, q1, q2, q3⟩ := H0.out.1.blk
    obtain ⟨cv, p1, p2, p3⟩ := H0.out.2.1.blk
    have hcb := H0.out.2.1.cap
    rw [run_callFunc_extern Try.func102 (by kernel_rfl) (by kernel_rfl) (by kernel_rfl) (e := Extern.SlicesOverlaps.overlaps #[RS, RS] #[4]) (by kernel_rfl),
      Lib.run_overlaps_apart W0 RS 4 RT Try.underlying94 3 (fun w => by kernel_rfl) ⟨g, (i + v.length) * 3, none⟩ ⟨b, 0, none⟩ la ca v.length cb (Ne.symm HC.out.2.2) RT RT cg.size cv.size (by unfold World.shape?; rw [show W0.heap[g]? = _ from q1]) (by unfold World.shape?; rw [show W0.heap[b]? = _ from p1]) (by rw [p2]; omega) (q1.free _) (q1.free _)]
    rfl
  go_upto_region 22 with (simp only [hov])
  clear hov
  have H1 := Lib.hid (show Recs encR 3 W0.drew RT g c xs ∧ Recs encR 3 W0.drew RT b cb v ∧ Kept [g] w W0.drew from ⟨H0.out.1.drew, H0.out.2.1.drew, H0.out.2.2.drew⟩)
  have H2R := Lib.hid (H2.out W0.drew (H1.out.1.cut encR_len (show i ≤ xs.length by omega)))
  have e2 := fun dc sc ty => run_copy_back (W := W0.drew) (a := i + v.length) (gs := g) (j := j) (dLen := tot - (i + v.length)) (xs := xs) (H1.out.1.there (by have := HTim.out; omega)) (recs_src H1.out.1 j) (by have := HTim.out; omega) dc sc ty
  clear H0
  go_cut [] (fun wc => wc = W0.drew.setCells g ((i + v.length) * 3) ((xs.drop j).flatMap encR))
  case first =>
    go_region_held3 (fun _ => True) (trivial) (fail)
    all_goals
      go_wp2_with fail
      go_meet
      exact rfl
  case rest =>
  obtain rfl := hcut
  have H3 := Lib.hid (show Recs encR 3 (W0.drew.setCells g ((i + v.length) * 3) ((xs.drop j).flatMap encR)) RT b cb v ∧ Kept [g] w (W0.drew.setCells g ((i + v.length) * 3) ((xs.drop j).flatMap encR)) ∧ (W0.drew.setCells g ((i + v.length) * 3) ((xs.drop j).flatMap encR)).there g (i * 3) (v.length * 3) from
    ⟨H1.out.2.1.kept ((Kept.refl [g] _).setCells (.inl (by simp)) _ _) (by simpa using HC.out.2.2), H1.out.2.2.setCells (.inl (by simp)) _ _, there_set (H1.out.1.there (by have := HTim.out; omega)) _⟩)
  generalize W0.drew.setCells g ((i + v.length) * 3) ((xs.drop j).flatMap encR) = W2 at H3 H2R ⊢
  have e1 := fun dc ty => run_copy_front (W := W2) (a := i) (dLen := tot - i) H3.out.2.2 H3.out.1 (by have := HTim.out; omega) dc ty
  clear e2
  have HX := Lib.hid (And.intro H2R.out (And.intro (H3.out.2.1.setCells (b := g) (.inl (by simp)) (v.flatMap encR) (i * 3)) (show ys.length = tot by rw [HLn.out]; exact HTim.out)))
  generalize W2.setCells g (i * 3) (v.flatMap encR) = W3 at e1 HX
  go_wp2_with fail
  go_ret
  exact ⟨g, c, by rw [HX.out.2.2]; rfl, HX.out.1, .inl rfl, HX.out.2.1⟩
end
end Go.Proofs.Ytldlogmjkbhomaa.Spa
