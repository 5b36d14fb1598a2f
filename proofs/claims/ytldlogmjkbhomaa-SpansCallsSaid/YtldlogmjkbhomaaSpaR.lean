/- The contract of slices.Replace as package spans calls it: at the end. -/
import Derived.Test.YtldlogmjkbhomaaSpaE
import Derived.Test.YtldlogmjkbhomaaAidCopy
import Derived.Lib.Overlaps
import Derived.Laws.Externs
set_option linter.unusedSimpArgs false
namespace Go.Proofs.Ytldlogmjkbhomaa.Spa
open Go.RowKit Go.Proofs.Ytldlogmjkbhomaa.Aid
def Repl (w : World) (g : Nat) (ys : List Rn) (e : Ending) (w' : World) : Prop :=
  ∃ g' c', e = .returned (.slice (some ⟨g', 0, none⟩) ys.length c') ∧ Recs encR 3 w' RT g' c' ys ∧ (g' = g ∨ w.heap.size ≤ g') ∧ Kept [g] w w'
theorem recs_src {w : World} {b cb : Nat} {v : List Rn} (h : Recs encR 3 w RT b cb v) (k : Nat) : ∀ j u, ((v.drop k).flatMap encR)[j]? = some u → w.cell? ((⟨b, k * 3, none⟩ : Addr).add j) = some u := fun j u hj => by
  obtain ⟨cur, h1, h2, h3⟩ := h.blk
  rw [Addr.add_mid]
  have e : v.flatMap encR = (v.take k).flatMap encR ++ (v.drop k).flatMap encR := by rw [← List.flatMap_append, List.take_append_drop]
  have hl := flat_len encR_len (v.take k)
  have hjl : j < ((v.drop k).flatMap encR).length := (List.getElem?_eq_some_iff.1 hj).1
  rw [flat_len encR_len, List.length_drop] at hjl
  rw [List.length_take] at hl
  have e2 : (v.flatMap encR)[k * 3 + j]? = some u := by
    rw [e, List.getElem?_append_right (by omega), ← hj]
    congr 1
    omega
  rw [← h3, List.getElem?_take, if_pos (by omega)] at e2
  exact h1.cell (by simpa using e2)
theorem recs_src0 {w : World} {b cb : Nat} {v : List Rn} (h : Recs encR 3 w RT b cb v) : ∀ j u, (v.flatMap encR)[j]? = some u → w.cell? ((⟨b, 0, none⟩ : Addr).add j) = some u := fun j u hj => by
  have := recs_src h 0 j u (by simpa using hj)
  rwa [Nat.zero_mul] at this
theorem flat_one (v : List Rn) : ∀ u ∈ v.flatMap encR, u.oneCell' = true := fun u hu => by
  obtain ⟨x, _, hx⟩ := List.mem_flatMap.1 hu
  exact encR_one x u hx
theorem size_run : (Try.prog.info? RT).map (·.size) = some 3 := by
  obtain ⟨i0, hi0, h0, h1, h2⟩ := info_parts info_run
  rw [hi0]; simp [h1]
theorem run_copy_front {W : World} {g a b cb dLen : Nat} {v : List Rn} (hth : W.there g (a * 3) (v.length * 3)) (hV : Recs encR 3 W RT b cb v) (hd : v.length ≤ dLen) (dc : Nat) (ty : TypeId) :
    (Builtin.copy_ #[RS, RS] ty #[.slice (some ⟨g, a * 3, none⟩) dLen dc, .slice (some ⟨b, 0, none⟩) v.length cb]).run Try.prog W = .ok (goInt v.length) (W.setCells g (a * 3) (v.flatMap encR)) :=
  run_copy_recs (P := Try.prog) W RS RS ty RT 3 g (a * 3) dLen dc ⟨b, 0, none⟩ v.length cb v.length (v.flatMap encR) Try.underlying94 size_run (by omega) (flat_len encR_len v) (recs_src0 hV) (by rw [flat_len encR_len]; exact hth) (flat_one v)
theorem run_copy_back {W : World} {g a gs j dLen : Nat} {xs : List Rn} (hth : W.there g (a * 3) ((xs.length - j) * 3)) (hsrc : ∀ k u, ((xs.drop j).flatMap encR)[k]? = some u → W.cell? ((⟨gs, j * 3, none⟩ : Addr).add k) = some u) (hd : xs.length - j ≤ dLen) (dc sc : Nat) (ty : TypeId) :
    (Builtin.copy_ #[RS, RS] ty #[.slice (some ⟨g, a * 3, none⟩) dLen dc, .slice (some ⟨gs, j * 3, none⟩) (xs.length - j) sc]).run Try.prog W = .ok (goInt (xs.length - j : Nat)) (W.setCells g (a * 3) ((xs.drop j).flatMap encR)) :=
  run_copy_recs (P := Try.prog) W RS RS ty RT 3 g (a * 3) dLen dc ⟨gs, j * 3, none⟩ (xs.length - j) sc (xs.length - j) ((xs.drop j).flatMap encR) Try.underlying94 size_run (by omega) (by rw [flat_len encR_len, List.length_drop]) hsrc (by rw [flat_len encR_len, List.length_drop]; exact hth) (flat_one _)
theorem setCells_drew (b : Nat) : ∀ (vs : List Value) (o : Nat) (w : World), w.drew.setCells b o vs = (w.setCells b o vs).drew
  | [], _, _ => rfl
  | v :: r, o, w => setCells_drew b r (o + 1) (w.setCell ⟨b, o, none⟩ v)
theorem run_clear_none {P : Program} (w : World) (t e ty : TypeId) (ht : P.underlying t = some (.slice e)) (a : Addr) (c : Nat) : (Builtin.clear_ #[t] ty #[.slice (some a) 0 c]).run P w = .ok (.tuple #[]) w := by
  simp [Builtin.clear_, run_underlying ht]
theorem there_set {w : World} {b o n b2 o2 : Nat} (h : w.there b o n) (vs : List Value) : (w.setCells b2 o2 vs).there b o n := fun j hj => by
  obtain ⟨h1, h2⟩ := h j hj
  refine ⟨?_, by rw [World.frozen?_setCells]; exact h2⟩
  have hk : ∀ (vs : List Value) (o2 : Nat) (w : World), (w.cell? ⟨b, o + j, none⟩).isSome = true → ((w.setCells b2 o2 vs).cell? ⟨b, o + j, none⟩).isSome = true := fun vs => by
    induction vs with
    | nil => intro o2 w h; exact h
    | cons v r ih =>
      intro o2 w h
      refine ih (o2 + 1) _ ?_
      obtain ⟨u, hu⟩ := Option.isSome_iff_exists.1 h
      by_cases e : (⟨b2, o2, none⟩ : Addr) = ⟨b, o + j, none⟩
      · rw [e, World.cell?_setCell_same _ _ _ hu]; rfl
      · rw [World.cell?_setCell_other _ _ _ _ e]; exact h
  exact hk vs o2 w h1
section
variable {w : World} {g c : Nat} {ys v d : List Rn}
theorem recs_two (h : Recs encR 3 w RT g c ys) (hf : ys.length + v.length + d.length ≤ c) : Recs encR 3 ((w.setCells g ((ys.length + v.length) * 3) (d.flatMap encR)).setCells g (ys.length * 3) (v.flatMap encR)) RT g c (ys ++ v ++ d) := by
  obtain ⟨cur, h1, h2, h3⟩ := h.blk
  have hm := h.max
  have lV := flat_len encR_len v
  have lD := flat_len encR_len d
  have hcl : cur.toList.length = c * 3 := by simpa using h2
  have b1 := h1.setCells (d.flatMap encR) ((ys.length + v.length) * 3) (by rw [lD, h2]; omega)
  have hl1 : (lay cur.toList ((ys.length + v.length) * 3) (d.flatMap encR)).length = c * 3 := by rw [lay_len _ _ _ (by rw [lD, hcl]; omega)]; exact hcl
  have b2 := b1.setCells (v.flatMap encR) (ys.length * 3) (by unfold layA; rw [List.size_toArray, hl1, lV]; omega)
  refine Recs.of_blk b2 ?_ ?_ (by simp; omega) hm
  · unfold layA
    rw [List.size_toArray, lay_len _ _ _ (by rw [lV, List.toList_toArray, hl1]; omega), List.toList_toArray, hl1]
  · unfold layA
    simp only [List.toList_toArray]
    have := splice_take cur.toList (v.flatMap encR) (d.flatMap encR) (ys.length * 3) (by rw [lV, lD, hcl]; omega)
    rw [lV, lD] at this
    rw [show (ys.length + v.length) * 3 = ys.length * 3 + v.length * 3 by omega, show (ys ++ v ++ d).length * 3 = ys.length * 3 + v.length * 3 + d.length * 3 by simp; omega, this, h3]
    simp
theorem recs_two2 (h : Recs encR 3 w RT g c ys) (hf : ys.length + v.length + d.length ≤ c) : Recs encR 3 ((w.setCells g (ys.length * 3) (v.flatMap encR)).setCells g ((ys.length + v.length) * 3) (d.flatMap encR)) RT g c (ys ++ v ++ d) := by
  obtain ⟨cur, h1, h2, h3⟩ := h.blk
  have hm := h.max
  have lV := flat_len encR_len v
  have lD := flat_len encR_len d
  have hcl : cur.toList.length = c * 3 := by simpa using h2
  have b1 := h1.setCells (v.flatMap encR) (ys.length * 3) (by rw [lV, h2]; omega)
  have hl1 : (lay cur.toList (ys.length * 3) (v.flatMap encR)).length = c * 3 := by rw [lay_len _ _ _ (by rw [lV, hcl]; omega)]; exact hcl
  have b2 := b1.setCells (d.flatMap encR) ((ys.length + v.length) * 3) (by unfold layA; rw [List.size_toArray, hl1, lD]; omega)
  refine Recs.of_blk b2 ?_ ?_ (by simp; omega) hm
  · unfold layA
    rw [List.size_toArray, lay_len _ _ _ (by rw [lD, List.toList_toArray, hl1]; omega), List.toList_toArray, hl1]
  · unfold layA
    simp only [List.toList_toArray]
    have := splice_take2 cur.toList (v.flatMap encR) (d.flatMap encR) (ys.length * 3) (by rw [lV, lD, hcl]; omega)
    rw [lV, lD] at this
    rw [show (ys.length + v.length) * 3 = ys.length * 3 + v.length * 3 by omega, show (ys ++ v ++ d).length * 3 = ys.length * 3 + v.length * 3 + d.length * 3 by simp; omega, this, h3]
    simp
theorem recs_one (h : Recs encR 3 w RT g c ys) (hf : ys.length + v.length ≤ c) : Recs encR 3 (w.setCells g (ys.length * 3) (v.flatMap encR)) RT g c (ys ++ v) := by
  have := recs_two2 (d := []) h (by simpa using hf)
  simpa [World.setCells] using this
end
section
variable (w : World) (g c b cb : Nat) (xs v : List Rn) (hR : Recs encR 3 w RT g c xs) (hV : Recs encR 3 w RT b cb v) (hv : v ≠ []) (hl : xs.length + v.length ≤ 100000)
include hR hV hv hl
set_option maxHeartbeats 4000000 in
set_option maxRecDepth 100000 in
attribute [-go_sem] Builtin.append_ in
theorem replace_end (i : Nat) (hi : i < xs.length) :
    Calls Try.prog 87 #[.slice (some ⟨g, 0, none⟩) xs.length c, .int .i64 i, .int .i64 xs.length, .slice (some ⟨b, 0, none⟩) v.length cb] w (Repl w g (xs.take i ++ v)) := by
  have hcap := hR.cap
  have hcut := hR.cut encR_len (show i ≤ xs.length by omega)
  have hcl : (xs.take i).length = i := by rw [List.length_take]; omega
  have hmv : v.length ≠ 0 := fun e => hv (List.eq_nil_of_length_eq_zero e)
  have hln : (xs.take i ++ v).length = i + v.length := by rw [List.length_append, hcl]
  have HLn := Lib.hid hln
  have hil : ((i : Int) == (xs.length : Int)) = false := by simp; omega
  have hi0 : (0 : Int) ≤ (i : Int) := by omega
  have hi1 : (i : Int) < (xs.length : Int) := by omega
  by_cases hs : i + v.length < xs.length
  · have hsrc : Src Try.prog 3 RS (.slice (some ⟨b, 0, none⟩) v.length cb) v.length (v.flatMap encR) w := Src.ofSlice w Try.underlying94 ⟨b, 0, none⟩ v.length cb _ (flat_len encR_len v) (recs_src0 hV) (flat_one v)
    obtain ⟨i0, hi0', hz1, hz2, hz3⟩ := info_parts info_run
    have hth0 := hR.there (k := i) (m := v.length) (by omega)
    have e1 : ∀ ty, (Builtin.append_ #[RS, RS] ty #[.slice (some ⟨g, 0, none⟩) i c, .slice (some ⟨b, 0, none⟩) v.length cb]).run Try.prog w = .ok (.slice (some ⟨g, 0, none⟩) (i + v.length) c) (w.setCells g (i * 3) (v.flatMap encR)) := fun ty => by
      have := run_append_room_src (P := Try.prog) w RS RS ty RT i0 Try.underlying94 hi0' g 0 i c (.slice (some ⟨b, 0, none⟩) v.length cb) v.length (v.flatMap encR) (by rw [hz2]; exact hsrc) (by omega)
        (by rw [hz2, flat_len encR_len]; intro j hj; rw [Nat.zero_add]; exact (hth0 j hj).1) (by rw [hz2, flat_len encR_len]; intro j hj; rw [Nat.zero_add]; exact (hth0 j hj).2)
      rw [hz2, Nat.zero_add] at this
      exact this
    have h2 := recs_one (v := v) hcut (by omega)
    rw [hcl] at h2
    have hth := h2.there (k := i + v.length) (m := xs.length - (i + v.length)) (by omega)
    have hK := (Kept.refl [g] w).setCells (b := g) (.inl (by simp)) (v.flatMap encR) (i * 3)
    obtain ⟨vs, hvl, hclr⟩ : ∃ vs : List Value, vs.length = (xs.length - (i + v.length)) * 3 ∧ ∀ ty, (Builtin.clear_ #[RS] ty #[.slice (some ⟨g, (i + v.length) * 3, none⟩) (xs.length - (i + v.length)) (c - (i + v.length))]).run Try.prog (w.setCells g (i * 3) (v.flatMap encR)) = .ok (.tuple #[]) ((w.setCells g (i * 3) (v.flatMap encR)).setCells g ((i + v.length) * 3) vs) := by
      obtain ⟨vs, h1, h2⟩ := run_clear_recs (P := Try.prog) (w.setCells g (i * 3) (v.flatMap encR)) RS RT 0 _ 3 Try.underlying94 zero_run rfl (by intro v hv; simp [Value.cells] at hv; rcases hv with rfl | rfl <;> rfl) g ((i + v.length) * 3) (xs.length - (i + v.length)) (c - (i + v.length)) (by omega) hth
      exact ⟨vs, h1, fun _ => h2⟩
    have h3 := h2.clear encR_len (k := i + v.length) (by rw [hln]; exact Nat.le_refl _) vs (by rw [hvl]; omega)
    rw [List.take_of_length_le (by rw [hln]; exact Nat.le_refl _)] at h3
    have HX := Lib.hid (And.intro h3 (hK.setCells (b := g) (.inl (by simp)) vs ((i + v.length) * 3)))
    have hsI : (((i + v.length : Nat) : Int)) < (xs.length : Int) := by omega
    have hcI : ¬ ((c : Int) = ((i + v.length : Nat) : Int)) := by omega
    clear hvl h3 h2 hK hth hth0 hsrc hi0' hz1 hz2 hz3 hcut hcl hln hR hV hv
    generalize v.flatMap encR = V at e1 hclr HX
    generalize w.setCells g (i * 3) V = W2 at e1 hclr HX
    go_enter Try.func87, Try.ntmps87
    go_wp2_with fail
    go_ret
    exact ⟨g, c, by rw [HLn.out]; rfl, HX.out.1, .inl rfl, HX.out.2⟩
  · obtain ⟨g', c', w', e1, hR', hold, hown, hz, e2, e3, e4⟩ := append_hdr_run (P := Try.prog) (W := w) RS RS RT _ 24 Try.underlying94 info_run rfl (by decide) encR_len encR_one (hd := .slice (some ⟨g, 0, none⟩) (xs.take i).length c) (xs := xs.take i) (.inr ⟨g, c, rfl, hcut⟩) hV (.inl (by simp)) (by omega) (by decide)
    rw [hcl] at e1
    have HK := Lib.hid (show (g' = g ∨ w.heap.size ≤ g') ∧ Kept [g] w w' ∧ Recs encR 3 w' RT g' c' (xs.take i ++ v) from by
      refine ⟨?_, ⟨e2, e3, e4, hz, fun k hk hkg => hold k hk fun e => ?_⟩, hR'⟩
      · rcases hown with e | e
        · exact .inl (Option.some.inj (show some g = some g' from e)).symm
        · exact .inr e
      · have := Option.some.inj (show some g = some k from e)
        exact hkg (by simp [this]))
    have hsI : ¬ (((i + v.length : Nat) : Int)) < (xs.length : Int) := by omega
    clear hcut hR' hold hown hz e2 e3 e4 hln hcl hR hV hv
    go_enter Try.func87, Try.ntmps87
    go_wp2_with fail
    go_ret
    exact ⟨g', c', by rw [HLn.out]; rfl, HK.out.2.2, HK.out.1, HK.out.2.1⟩
set_option maxHeartbeats 8000000 in
set_option maxRecDepth 100000 in
/-- In place, where what comes is no longer than what goes. -/
theorem replace_less (i j : Nat) (hbg : b ≠ g) (hij : i + v.length ≤ j) (hj : j < xs.length) :
    Calls Try.prog 87 #[.slice (some ⟨g, 0, none⟩) xs.length c, .int .i64 i, .int .i64 j, .slice (some ⟨b, 0, none⟩) v.length cb] w (Repl w g (xs.take i ++ v ++ xs.drop j)) := by
  have hcap := hR.cap
  have hcut := hR.cut encR_len (show i ≤ xs.length by omega)
  have hcl : (xs.take i).length = i := by rw [List.length_take]; omega
  have hdl : (xs.drop j).length = xs.length - j := by rw [List.length_drop]
  have hmv : v.length ≠ 0 := fun e => hv (List.eq_nil_of_length_eq_zero e)
  have hln : (xs.take i ++ v ++ xs.drop j).length = i + v.length + (xs.length - j) := by simp; omega
  have HLn := Lib.hid hln
  have h2 := fun (W : World) (hW : Recs encR 3 W RT g c (xs.take i)) => recs_two2 (v := v) (d := xs.drop j) hW (by rw [hcl, hdl]; omega)
  rw [hcl] at h2
  generalize xs.take i ++ v ++ xs.drop j = ys at hln h2 HLn ⊢
  have H2 := Lib.hid h2
  have HC := Lib.hid (And.intro hR (And.intro hV hbg))
  have hi0 : (0 : Int) ≤ (i : Int) := by omega
  have hij0 : (i : Int) < (j : Int) := by omega
  have hj1 : (j : Int) < (xs.length : Int) := by omega
  have hic0 : (i : Int) ≤ (c : Int) := by omega
  have hjl0 : (j : Int) ≤ (xs.length : Int) := by omega
  have hlc0 : (xs.length : Int) ≤ (c : Int) := by omega
  have hj0 : (0 : Int) ≤ (j : Int) := by omega
  have hje : ((i : Int) == (j : Int)) = false := by simp; omega
  have hjl : ((j : Int) == (xs.length : Int)) = false := by simp; omega
  have hcj : ¬ (c : Int) = (j : Int) := by omega
  have hci : ¬ (c : Int) = (i : Int) := by omega
  have htot : (i : Int) + (v.length : Int) + ((xs.length - j : Nat) : Int) = ((i + v.length + (xs.length - j) : Nat) : Int) := by omega
  have hsub : ((xs.length - j : Nat) : Int) = (xs.length : Int) - (j : Int) := by omega
  obtain ⟨tot, ht⟩ : ∃ tot, tot = i + v.length + (xs.length - j) := ⟨_, rfl⟩
  have ht1 : tot ≤ xs.length := by omega
  have hw1 : IntKind.i64.wrap ((i : Int) + (v.length : Int)) = (i : Int) + (v.length : Int) := by rw [i64_wrap]; unfold wrap64; omega
  have hwr : IntKind.i64.wrap ((i : Int) + (v.length : Int) + ((xs.length : Int) - (j : Int))) = ((tot : Nat) : Int) := by rw [i64_wrap]; unfold wrap64; omega
  clear h2 hR hV hv hcut
  go_enter Try.func87, Try.ntmps87
  go_upto_region 9 with fail
  go_cut [10] (fun s wc => s = .int .i64 (tot : Nat) ∧ wc = w.drew)
  case first =>
    go_region_held3 (fun _ => True) (trivial) (fail)
    all_goals
      go_wp2_with fail
      go_meet
      exact ⟨congrArg (Value.int .i64) (by first | omega | rfl | exact hwr | rw [hw1, hwr]), rfl⟩
  case rest =>
  obtain ⟨rfl, rfl⟩ := hcut
  have H0 := Lib.hid (show Recs encR 3 w.drew RT g c xs ∧ Recs encR 3 w.drew RT b cb v ∧ Kept [g] w w.drew from ⟨HC.out.1.drew, HC.out.2.1.drew, (Kept.refl _ _).drew⟩)
  generalize w.drew = W0 at H0 ⊢
  have htv : (i : Int) + (v.length : Int) ≤ (j : Int) := by omega
  have htc : ¬ (c : Int) < (tot : Nat) := by omega
  have ht0 : (0 : Int) ≤ (tot : Nat) := by omega
  have htc2 : ((tot : Nat) : Int) ≤ (c : Nat) := by omega
  have hit : ((i : Nat) : Int) ≤ (tot : Nat) := by omega
  have htim : i + v.length + (xs.length - j) = tot := ht.symm
  have HTim := Lib.hid htim
  have hiv : ((i : Nat) : Int) + (v.length : Nat) ≤ (tot : Nat) := by omega
  have htd : tot - (i + v.length) = xs.length - j := by omega
  have HTd := Lib.hid htd
  have hcv : ¬ (c : Int) = ((i : Nat) : Int) + (v.length : Nat) := by omega
  have hiv0 : (0 : Int) ≤ (i : Int) + (v.length : Int) := by omega
  have hcv2 : ¬ c = i + v.length := by omega
  have htn : ((i : Int) + (v.length : Int)).toNat = i + v.length := by omega
  clear hwr hsub htot ht htim htd
  go_upto_region 17 with fail
  have e1 := fun dc ty => run_copy_front (W := W0) (a := i) (dLen := tot - i) (H0.out.1.there (by omega)) H0.out.2.1 (by have := HTim.out; omega) dc ty
  have H1 := Lib.hid (show Kept [g] w (W0.setCells g (i * 3) (v.flatMap encR)) ∧ (W0.setCells g (i * 3) (v.flatMap encR)).there g ((i + v.length) * 3) ((xs.length - j) * 3) ∧ (∀ k u, ((xs.drop j).flatMap encR)[k]? = some u → (W0.setCells g (i * 3) (v.flatMap encR)).cell? ((⟨g, j * 3, none⟩ : Addr).add k) = some u) from
    ⟨H0.out.2.2.setCells (.inl (by simp)) _ _, there_set (H0.out.1.there (by have := HTim.out; omega)) _, fun k u hk => by
      have := recs_src H0.out.1 j k u hk
      rw [Addr.add_mid] at this ⊢
      rw [World.cell?_setCells_out _ _ _ _ _ (fun _ _ => .inr (by rw [flat_len encR_len]; show i * 3 + v.length * 3 ≤ j * 3 + k; omega))]
      exact this⟩)
  go_upto_region 18 with fail
  have H2R := Lib.hid (H2.out W0 (H0.out.1.cut encR_len (show i ≤ xs.length by omega)))
  generalize hW1 : W0.setCells g (i * 3) (v.flatMap encR) = W1 at H1 H2R ⊢
  have e2 := fun dc sc ty => run_copy_back (W := W1.drew) (a := i + v.length) (gs := g) (j := j) (dLen := tot - (i + v.length)) (xs := xs) H1.out.2.1 H1.out.2.2 (by have := HTim.out; omega) dc sc ty
  clear hW1 e1
  go_cut [] (fun wc => wc = W1.drew.setCells g ((i + v.length) * 3) ((xs.drop j).flatMap encR))
  case first =>
    go_region_held3 (fun _ => True) (trivial) (fail)
    all_goals
      go_wp2_with fail
      go_meet
      exact rfl
  case rest =>
  obtain rfl := hcut
  have H3 := Lib.hid (show Recs encR 3 (W1.drew.setCells g ((i + v.length) * 3) ((xs.drop j).flatMap encR)) RT g c ys ∧ Kept [g] w (W1.drew.setCells g ((i + v.length) * 3) ((xs.drop j).flatMap encR)) from
    ⟨by rw [setCells_drew]; exact H2R.out.drew, H1.out.1.drew.setCells (.inl (by simp)) _ _⟩)
  generalize W1.drew.setCells g ((i + v.length) * 3) ((xs.drop j).flatMap encR) = W2 at H3 ⊢
  clear e2 H1 H2R H2 H0 HC
  by_cases hs : tot < xs.length
  · obtain ⟨vs, hvl, hclr⟩ : ∃ vs : List Value, vs.length = (xs.length - tot) * 3 ∧ ∀ ty, (Builtin.clear_ #[RS] ty #[.slice (some ⟨g, tot * 3, none⟩) (xs.length - tot) (c - tot)]).run Try.prog W2 = .ok (.tuple #[]) (W2.setCells g (tot * 3) vs) := by
      obtain ⟨vs, h1, h2⟩ := run_clear_recs (P := Try.prog) W2 RS RT 0 _ 3 Try.underlying94 zero_run rfl (by intro v hv; simp [Value.cells] at hv; rcases hv with rfl | rfl <;> rfl) g (tot * 3) (xs.length - tot) (c - tot) (by omega) (H3.out.1.there (by omega))
      exact ⟨vs, h1, fun _ => h2⟩
    have hlt : ys.length = tot := by rw [HLn.out]; exact HTim.out
    have h3 := H3.out.1.clear encR_len (k := tot) (by rw [hlt]; exact Nat.le_refl _) vs (by rw [hvl]; omega)
    rw [List.take_of_length_le (by rw [hlt]; exact Nat.le_refl _)] at h3
    have HX := Lib.hid (And.intro h3 (And.intro (H3.out.2.setCells (b := g) (.inl (by simp)) vs (tot * 3)) hlt))
    have hsI : ((tot : Nat) : Int) < (xs.length : Int) := by omega
    have hcI : ¬ ((c : Int) = ((tot : Nat) : Int)) := by omega
    clear hvl h3 hlt
    go_wp2_with fail
    go_ret
    exact ⟨g, c, by rw [HX.out.2.2]; rfl, HX.out.1, .inl rfl, HX.out.2.1⟩
  · obtain rfl : tot = xs.length := by omega
    have hlt := Lib.hid (show ys.length = xs.length by rw [HLn.out]; exact HTim.out)
    have hclr := fun a cc ty => run_clear_none (P := Try.prog) W2 RS RT ty Try.underlying94 a cc
    have hsub : xs.length - xs.length = 0 := Nat.sub_self _
    by_cases hcI : c = xs.length
    all_goals
      have hcI2 : ((c : Int) = (xs.length : Int)) ∨ ¬ ((c : Int) = (xs.length : Int)) := by omega
      clear hcI2
      go_wp2_with fail
      go_ret
      exact ⟨g, c, by rw [hlt.out]; first | rfl | (rw [hcI]; rfl), H3.out.1, .inl rfl, H3.out.2⟩
end
end Go.Proofs.Ytldlogmjkbhomaa.Spa
