/- The contract of slices.Replace as package spans calls it: where there is no room. -/
import Derived.Test.YtldlogmjkbhomaaSpaS
set_option linter.unusedSimpArgs false
namespace Go.Proofs.Ytldlogmjkbhomaa.Spa
open Go.RowKit Go.Proofs.Ytldlogmjkbhomaa.Aid
section
variable (w : World) (g c b cb : Nat) (xs v : List Rn) (hR : Recs encR 3 w RT g c xs) (hV : Recs encR 3 w RT b cb v) (hv : v ≠ []) (hl : xs.length + v.length ≤ 100000)
include hR hV hv hl
set_option maxHeartbeats 8000000 in
set_option maxRecDepth 100000 in
attribute [-go_sem] Builtin.append_ in
/-- A new row. -/
theorem replace_grow (i j : Nat) (hbg : b ≠ g) (hi : i < j) (hj : j < xs.length) (hroom : c < i + v.length + (xs.length - j)) :
    Calls Try.prog 87 #[.slice (some ⟨g, 0, none⟩) xs.length c, .int .i64 i, .int .i64 j, .slice (some ⟨b, 0, none⟩) v.length cb] w (Repl w g (xs.take i ++ v ++ xs.drop j)) := by
  have hcap := hR.cap
  have hcut := hR.cut encR_len (show i ≤ xs.length by omega)
  have hcl : (xs.take i).length = i := by rw [List.length_take]; omega
  have hdl : (xs.drop j).length = xs.length - j := by rw [List.length_drop]
  have hmv : v.length ≠ 0 := fun e => hv (List.eq_nil_of_length_eq_zero e)
  have hmc := hR.max
  have hln : (xs.take i ++ v ++ xs.drop j).length = i + v.length + (xs.length - j) := by simp; omega
  have HLn := Lib.hid hln
  have h2 := fun (W : World) (g c : Nat) (hf : i + v.length + (xs.length - j) ≤ c) (hW : Recs encR 3 W RT g c (xs.take i)) => recs_two2 (v := v) (d := xs.drop j) hW (by rw [hcl, hdl]; omega)
  rw [hcl] at h2
  generalize xs.take i ++ v ++ xs.drop j = ys at hln h2 HLn ⊢
  have H2 := Lib.hid h2
  have HC := Lib.hid (And.intro hR (And.intro hV hbg))
  have hi0 : (0 : Int) ≤ (i : Int) := by omega
  have hij0 : (i : Int) < (j : Int) := by omega
  have hj1 : (j : Int) < (xs.length : Int) := by omega
  have hic0 : (i : Int) ≤ (c : Int) := by omega
  have hjl0 : (j : Int) ≤ (xs.length : Int) := by omega
  have hlc0 : (xs.length : Int) ≤ (c : Int) := by omega
  have hj0 : (0 : Int) ≤ (j : Int) := by omega
  have hje : ((i : Int) == (j : Int)) = false := by simp; omega
  have hjl : ((j : Int) == (xs.length : Int)) = false := by simp; omega
  have hcj : ¬ (c : Int) = (j : Int) := by omega
  have hci : ¬ (c : Int) = (i : Int) := by omega
  have htot : (i : Int) + (v.length : Int) + ((xs.length - j : Nat) : Int) = ((i + v.length + (xs.length - j) : Nat) : Int) := by omega
  have hsub : ((xs.length - j : Nat) : Int) = (xs.length : Int) - (j : Int) := by omega
  obtain ⟨tot, ht⟩ : ∃ tot, tot = i + v.length + (xs.length - j) := ⟨_, rfl⟩
  have ht1 : c < tot := by omega
  have hw1 : IntKind.i64.wrap ((i : Int) + (v.length : Int)) = (i : Int) + (v.length : Int) := by rw [i64_wrap]; unfold wrap64; omega
  have hwr : IntKind.i64.wrap ((i : Int) + (v.length : Int) + ((xs.length : Int) - (j : Int))) = ((tot : Nat) : Int) := by rw [i64_wrap]; unfold wrap64; omega
  clear h2 hR hV hv hcut
  go_enter Try.func87, Try.ntmps87
  go_upto_region 9 with fail
  go_cut [10] (fun s wc => s = .int .i64 (tot : Nat) ∧ wc = w.drew)
  case first =>
    go_region_held3 (fun _ => True) (trivial) (fail)
    all_goals
      go_wp2_with fail
      go_meet
      exact ⟨congrArg (Value.int .i64) (by first | omega | rfl | exact hwr | rw [hw1, hwr]), rfl⟩
  case rest =>
  obtain ⟨rfl, rfl⟩ := hcut
  have H0 := Lib.hid (show Recs encR 3 w.drew RT g c xs ∧ Recs encR 3 w.drew RT b cb v ∧ Kept [g] w w.drew from ⟨HC.out.1.drew, HC.out.2.1.drew, (Kept.refl _ _).drew⟩)
  generalize w.drew = W0 at H0 ⊢
  have htc : (c : Int) < (tot : Nat) := by omega
  have htm : tot ≤ 100000 := by omega
  have ht0 : (0 : Int) ≤ (tot : Nat) := by omega
  have hit : ((i : Nat) : Int) ≤ (tot : Nat) := by omega
  have hitn : i < tot := by omega
  have htim : i + v.length + (xs.length - j) = tot := ht.symm
  have HTim := Lib.hid htim
  have hiv : ((i : Nat) : Int) + (v.length : Nat) ≤ (tot : Nat) := by omega
  have htd : tot - (i + v.length) = xs.length - j := by omega
  have hiv0 : (0 : Int) ≤ (i : Int) + (v.length : Int) := by omega
  have htn : ((i : Int) + (v.length : Int)).toNat = i + v.length := by omega
  have hst : ((tot - i : Nat) : Int) = (tot : Int) - (i : Int) := by omega
  obtain ⟨i0, hi0', hz1, hz2, hz3⟩ := info_parts info_run
  have hcut0 := H0.out.1.cut encR_len (show i ≤ xs.length by omega)
  have e0 := fun ty => run_append_zeros (P := Try.prog) W0 RS 3 ty RT i0 _ Try.underlying94 Try.underlying3 hi0' hz1 (some ⟨g, 0, none⟩) i c ((xs.take i).flatMap encR)
    (by rw [hz2]; exact run_firstCells_some W0.drew 3 i ⟨g, 0, none⟩ i c _ (by rw [flat_len encR_len, hcl]) (fun k u hk => by
      have := recs_src0 hcut0 k u hk
      simpa using this)) (tot - i) (by rw [hz2]; omega) (by omega) (by omega) (growslice_fits (by omega) (by rw [hz3]; omega)) (by rw [hz3]; omega)
  rw [show i + (tot - i) = tot by omega, hst] at e0
  have hge := grownCap_ge W0 tot c RT
  have hmx := grownCap_le_maxLen W0 tot c RT (by unfold maxLen; omega)
  generalize grownCap W0 tot c RT = cp at e0 hge hmx
  have hnb := Blk.new W0.drew (((xs.take i).flatMap encR).toArray ++ Builtin.zeroCells (Value.agg #[.int .i64 0, .int .i64 0, .bool false]).cells (tot - i) ++ Builtin.zeroCells (Value.agg #[.int .i64 0, .int .i64 0, .bool false]).cells (cp - tot)) RT
  have hnk := H0.out.2.2.drew.alloc (.cells (((xs.take i).flatMap encR).toArray ++ Builtin.zeroCells (Value.agg #[.int .i64 0, .int .i64 0, .bool false]).cells (tot - i) ++ Builtin.zeroCells (Value.agg #[.int .i64 0, .int .i64 0, .bool false]).cells (cp - tot)) RT)
  have hnR := Recs.of_blk (enc := encR) (z := 3) (c := cp) (ys := xs.take i) hnb (by simp [size_zeroCells, flat_len encR_len, hcl, Value.cells]; omega) (by rw [hcl]; simp only [Array.toList_append, List.append_assoc]; rw [List.take_left' (by rw [flat_len encR_len, hcl])]) (by rw [hcl]; omega) hmx
  have hxR := H0.out.1.drew.alloc (.cells (((xs.take i).flatMap encR).toArray ++ Builtin.zeroCells (Value.agg #[.int .i64 0, .int .i64 0, .bool false]).cells (tot - i) ++ Builtin.zeroCells (Value.agg #[.int .i64 0, .int .i64 0, .bool false]).cells (cp - tot)) RT)
  have hvR := H0.out.2.1.drew.alloc (.cells (((xs.take i).flatMap encR).toArray ++ Builtin.zeroCells (Value.agg #[.int .i64 0, .int .i64 0, .bool false]).cells (tot - i) ++ Builtin.zeroCells (Value.agg #[.int .i64 0, .int .i64 0, .bool false]).cells (cp - tot)) RT)
  have HN := Lib.hid (And.intro hnk (And.intro hnR (And.intro hxR hvR)))
  have hgn : g ≠ W0.heap.size ∧ b ≠ W0.heap.size ∧ w.heap.size ≤ W0.heap.size := ⟨by have := H0.out.1.lt; omega, by have := H0.out.2.1.lt; omega, H0.out.2.2.size⟩
  have HG := Lib.hid hgn
  change Hid (Kept [g] w _ ∧ Recs encR 3 _ RT W0.heap.size cp _ ∧ _) at HN
  generalize W0.drew.alloc (.cells (((xs.take i).flatMap encR).toArray ++ Builtin.zeroCells (Value.agg #[.int .i64 0, .int .i64 0, .bool false]).cells (tot - i) ++ Builtin.zeroCells (Value.agg #[.int .i64 0, .int .i64 0, .bool false]).cells (cp - tot)) RT) = W1 at e0 HN
  generalize W0.heap.size = n0 at e0 HN HG
  have hcp0 : ((tot : Nat) : Int) ≤ (cp : Nat) := by omega
  have hcp1 : ¬ ((cp : Nat) : Int) = (i : Nat) := by omega
  have hcp2 : ¬ (cp : Int) = ((i : Nat) : Int) + (v.length : Nat) := by omega
  have hcp3 : ¬ cp = i + v.length := by omega
  have hic2 : ((i : Nat) : Int) ≤ (cp : Nat) := by omega
  clear hwr hsub htot ht htim htd hnb hnk hnR hxR hvR hgn hcut0 hi0' hz1 hz2 hz3 H0 hmx
  go_upto_region 12 with fail
  clear e0
  have e1 := fun dc ty => run_copy_front (W := W1) (g := n0) (a := i) (dLen := tot - i) (HN.out.2.1.there (by have := HTim.out; omega)) HN.out.2.2.2 (by have := HTim.out; omega) dc ty
  have H1 := Lib.hid (show Kept [g] w (W1.setCells n0 (i * 3) (v.flatMap encR)) ∧ (W1.setCells n0 (i * 3) (v.flatMap encR)).there n0 ((i + v.length) * 3) ((xs.length - j) * 3) ∧ Recs encR 3 (W1.setCells n0 (i * 3) (v.flatMap encR)) RT g c xs from
    ⟨HN.out.1.setCells (.inr HG.out.2.2) _ _, there_set (HN.out.2.1.there (by have := HTim.out; omega)) _, HN.out.2.2.1.kept ((Kept.refl [n0] _).setCells (.inl (by simp)) _ _) (by simpa using HG.out.1)⟩)
  have H2R := Lib.hid (H2.out W1 n0 cp (by have := HTim.out; omega) HN.out.2.1)
  go_upto_region 13 with fail
  generalize W1.setCells n0 (i * 3) (v.flatMap encR) = W2 at H1 H2R ⊢
  have e2 := fun dc sc ty => run_copy_back (W := W2.drew) (g := n0) (a := i + v.length) (gs := g) (j := j) (dLen := tot - (i + v.length)) (xs := xs) H1.out.2.1 (recs_src H1.out.2.2.drew j) (by have := HTim.out; omega) dc sc ty
  clear e1
  go_cut [] (fun wc => wc = W2.drew.setCells n0 ((i + v.length) * 3) ((xs.drop j).flatMap encR))
  case first =>
    go_region_held3 (fun _ => True) (trivial) (fail)
    all_goals
      go_wp2_with fail
      go_meet
      exact rfl
  case rest =>
  obtain rfl := hcut
  have HX := Lib.hid (show Recs encR 3 (W2.drew.setCells n0 ((i + v.length) * 3) ((xs.drop j).flatMap encR)) RT n0 cp ys ∧ Kept [g] w (W2.drew.setCells n0 ((i + v.length) * 3) ((xs.drop j).flatMap encR)) ∧ ys.length = tot from
    ⟨by rw [setCells_drew]; exact H2R.out.drew, H1.out.1.drew.setCells (.inr HG.out.2.2) _ _, by rw [HLn.out]; exact HTim.out⟩)
  generalize W2.drew.setCells n0 ((i + v.length) * 3) ((xs.drop j).flatMap encR) = W3 at HX ⊢
  clear e2
  go_wp2_with fail
  go_ret
  exact ⟨n0, cp, by rw [HX.out.2.2]; rfl, HX.out.1, .inr HG.out.2.2, HX.out.2.1⟩
end
theorem replace_calls (w : World) (g c b cb : Nat) (xs v : List Rn) (hR : Recs encR 3 w RT g c xs) (hV : Recs encR 3 w RT b cb v) (hv : v ≠ []) (hl : xs.length + v.length ≤ 100000) (hbg : b ≠ g) (i j : Nat) (hi : i < j) (hj : j ≤ xs.length) :
    Calls Try.prog 87 #[.slice (some ⟨g, 0, none⟩) xs.length c, .int .i64 i, .int .i64 j, .slice (some ⟨b, 0, none⟩) v.length cb] w (Repl w g (xs.take i ++ v ++ xs.drop j)) := by
  rcases Nat.lt_or_ge j xs.length with h1 | h1
  · by_cases h2 : c < i + v.length + (xs.length - j)
    · exact replace_grow w g c b cb xs v hR hV hv hl i j hbg hi h1 h2
    · by_cases h3 : i + v.length ≤ j
      · exact replace_less w g c b cb xs v hR hV hv hl i j hbg h3 h1
      · exact replace_more w g c b cb xs v hR hV hv hl i j hbg hi (by omega) h1 (by omega)
  · obtain rfl : j = xs.length := by omega
    rw [List.drop_length, List.append_nil]
    exact replace_end w g c b cb xs v hR hV hv hl i hi
end Go.Proofs.Ytldlogmjkbhomaa.Spa
