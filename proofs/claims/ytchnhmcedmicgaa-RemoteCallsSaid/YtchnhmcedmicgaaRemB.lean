/- The contracts of slices.DeleteFunc and slices.IndexFunc, as package remote calls them. -/
import Derived.Test.YtchnhmcedmicgaaRemA
import Derived.Lib.SliceRun
namespace Go.Proofs.Ytchnhmcedmicgaa.Rem
open Go.RowKit Go.Proofs.Ytchnhmcedmicgaa.Aid
theorem zcells_mem (z : Array Value) (n : Nat) : ∀ v ∈ (Builtin.zeroCells z n).toList, v ∈ z := by
  intro v hv
  unfold Builtin.zeroCells at hv
  simp at hv
  obtain ⟨i, hi, rfl⟩ := hv
  have hz : 0 < z.size := by
    rcases Nat.eq_zero_or_pos z.size with h | h
    · rw [h] at hi; omega
    · exact h
  rw [getElem!_pos z _ (Nat.mod_lt _ hz)]
  exact Array.getElem_mem _
theorem run_clear_recs {P : Program} (w : World) (t e ty : TypeId) (z : Value) (sz : Nat) (ht : P.underlying t = some (.slice e)) (hv : ∀ w, (zeroValue e).run P w = .ok z w) (hz : z.cells.size = sz) (h1 : ∀ v ∈ z.cells, v.oneCell' = true) (b o n c : Nat) (hn : 0 < n) (hth : w.there b o (n * sz)) :
    ∃ vs : List Value, vs.length = n * sz ∧ (Builtin.clear_ #[t] ty #[.slice (some ⟨b, o, none⟩) n c]).run P w = .ok (.tuple #[]) (w.setCells b o vs) := by
  have hl : (Builtin.zeroCells z.cells n).toList.length = n * sz := by simp [size_zeroCells, hz]
  have hst := run_storeCells_cells (P := P) b o (Builtin.zeroCells z.cells n).toList 0 w (fun j hj => by rw [Nat.add_zero]; exact (hth j (by omega)).1) (fun j hj => by rw [Nat.add_zero]; exact (hth j (by omega)).2) (fun v hv' => h1 v (zcells_mem _ _ v hv'))
  simp only [Nat.add_zero] at hst
  obtain ⟨m, rfl⟩ : ∃ m, n = m + 1 := ⟨n - 1, by omega⟩
  exact ⟨_, hl, by simp [Builtin.clear_, run_underlying ht, hv, hst]⟩
theorem del1_calls (w : World) (B : Nat) (a : Int) (x : It) (hB : B < w.heap.size) (hc : w.cell? ⟨B, 0, none⟩ = some (.int .i64 a)) :
    Calls Try.prog 83 #[.agg #[.int .i64 x.frm, .int .i64 x.at_, .int .i64 x.seq], .pointer (some ⟨B, 0, none⟩)] w fun e w' => e = .returned (.bool (x.at_ == a)) ∧ Below w.heap.size w w' := by
  have hb := (Below.refl w.heap.size w).alloc (Nat.le_refl _) (.cells #[.int .i64 x.frm, .int .i64 x.at_, .int .i64 x.seq] IT)
  have hc' := (hb.cell (p := ⟨B, 0, none⟩) hB).trans hc
  have HB := Lib.hid hb
  clear hb
  go_enter Try.func83, Try.ntmps83
  go_wp2_with fail
  go_ret
  exact ⟨rfl, HB.out⟩
def idxV (a : Int) (xs : List It) : Int := match xs.findIdx? fun x => x.at_ == a with
  | some k => (k : Int)
  | none => -1
theorem idxV_none {a : Int} {xs : List It} (h : ∀ (k : Nat) (x : It), xs[k]? = some x → x.at_ ≠ a) : idxV a xs = -1 := by
  unfold idxV
  rw [List.findIdx?_eq_none_iff.2]
  intro x hx
  obtain ⟨k, hk, rfl⟩ := List.mem_iff_getElem.1 hx
  have := h k _ (List.getElem?_eq_getElem hk)
  simpa using this
theorem idxV_some {a : Int} {xs : List It} {k : Nat} {x : It} (hk : xs[k]? = some x) (hx : x.at_ = a) (h : ∀ (j : Nat) (y : It), j < k → xs[j]? = some y → y.at_ ≠ a) : idxV a xs = k := by
  unfold idxV
  obtain ⟨hl, rfl⟩ := List.getElem?_eq_some_iff.1 hk
  rw [List.findIdx?_eq_some_iff_getElem.2 ⟨hl, by simpa using hx, fun j hj => by
    have := h j _ hj (List.getElem?_eq_getElem (by omega))
    simpa using this⟩]
/-- What a record's cells say. -/
theorem rec_cells {w : World} {g c : Nat} {xs : List It} (h : Recs encI 3 w IT g c xs) {k : Nat} {x : It} (hk : xs[k]? = some x) : w.cell? ⟨g, k * 3, none⟩ = some (.int .i64 x.frm) ∧ w.cell? ⟨g, k * 3 + 1, none⟩ = some (.int .i64 x.at_) ∧ w.cell? ⟨g, k * 3 + 2, none⟩ = some (.int .i64 x.seq) :=
  ⟨h.at_ encI_len hk (j := 0) rfl, h.at_ encI_len hk (j := 1) rfl, h.at_ encI_len hk (j := 2) rfl⟩
abbrev FV (B : Nat) : Value := .func (.func 83) #[] #[.pointer (some ⟨B, 0, none⟩)]
theorem index_calls (w : World) (g c : Nat) (xs : List It) (a : Int) (B : Nat) (hR : Recs encI 3 w IT g c xs) (hB : B < w.heap.size) (hc : w.cell? ⟨B, 0, none⟩ = some (.int .i64 a)) (hl : xs.length ≤ 1000000) :
    Calls Try.prog 93 #[.slice (some ⟨g, 0, none⟩) xs.length c, FV B] w fun e w' => e = .returned (.int .i64 (idxV a xs)) ∧ Below w.heap.size w w' := by
  have HR := Lib.hid hR
  have HC := Lib.hid (And.intro hB hc)
  clear hR hB hc
  go_enter Try.func93, Try.ntmps93
  go_wp2_with fail
  go_loopw [5, 8] (fun _ i wr => ∃ k : Nat, k ≤ xs.length ∧ i = .int .i64 k ∧ Below w.heap.size w wr ∧ ∀ (j : Nat) (y : It), j < k → xs[j]? = some y → y.at_ ≠ a) (fun _ i _ => xs.length - (intOf i).toNat)
  case atStart => exact ⟨0, by omega, rfl, Below.refl _ _, fun j y hj => absurd hj (Nat.not_lt_zero _)⟩
  case round =>
    obtain ⟨k, hk, rfl, hb, hn⟩ := hrel
    have HB := Lib.hid hb
    have HN := Lib.hid hn
    clear hb hn
    by_cases hlt : k < xs.length
    · obtain ⟨x, hx⟩ : ∃ x, xs[k]? = some x := ⟨_, List.getElem?_eq_getElem hlt⟩
      have hk0 : (0 : Int) ≤ (k : Int) := by omega
      have hk1 : (k : Int) < (xs.length : Int) := by omega
      obtain ⟨r0, r1, r2⟩ := rec_cells (HR.out.below HB.out) hx
      have HX := Lib.hid hx
      have HD := Lib.hid (del1_calls wr B a x (Nat.lt_of_lt_of_le HC.out.1 HB.out.size) ((HB.out.cell (p := ⟨B, 0, none⟩) HC.out.1).trans HC.out.2))
      clear hx
      by_cases he : x.at_ = a
      · rw [show (x.at_ == a) = true by simpa using he] at HD
        have HE := Lib.hid he
        clear he
        go_wp2_with (first | (go_at_call 83; (with_reducible refine (Calls.mono HD.out ?_)); rintro e w1 ⟨rfl, hb1⟩) | fail)
        go_ret
        exact ⟨by rw [idxV_some HX.out HE.out HN.out]; rfl, below_then HB.out hb1⟩
      · rw [show (x.at_ == a) = false by simpa using he] at HD
        have HE := Lib.hid he
        clear he
        go_wp2_with (first | (go_at_call 83; (with_reducible refine (Calls.mono HD.out ?_)); rintro e w1 ⟨rfl, hb1⟩) | fail)
        go_roundw
        case rel =>
          refine ⟨k + 1, by omega, by go_num, below_then HB.out hb1, fun j y hj hy => ?_⟩
          by_cases e : j = k
          · subst e
            have := HX.out.symm.trans hy
            injection this with this
            rw [← this]; exact HE.out
          · exact HN.out j y (by omega) hy
        case measure => simp [intOf]; omega
    · obtain rfl : k = xs.length := by omega
      go_wp2_with fail
      go_ret
      exact ⟨by rw [idxV_none fun j y hy => HN.out j y (List.getElem?_eq_some_iff.1 hy).1 hy]; rfl, HB.out⟩
theorem keeps_take {a : Int} {xs : List It} {j : Nat} {x : It} (hx : xs[j]? = some x) : keeps a (xs.take (j + 1)) = keeps a (xs.take j) ++ (if x.at_ = a then [] else [x]) := by
  obtain ⟨hl, rfl⟩ := List.getElem?_eq_some_iff.1 hx
  unfold keeps
  rw [List.take_succ_eq_append_getElem hl, List.filter_append]
  congr 1
  by_cases e : xs[j].at_ = a
  · rw [if_pos e, List.filter_cons_of_neg (by simp [e])]; rfl
  · rw [if_neg e, List.filter_cons_of_pos (by simpa using e)]; rfl
theorem keeps_all {a : Int} {xs : List It} (h : ∀ (k : Nat) (x : It), xs[k]? = some x → x.at_ ≠ a) : keeps a xs = xs := by
  unfold keeps
  rw [List.filter_eq_self]
  intro x hx
  obtain ⟨k, hk, rfl⟩ := List.mem_iff_getElem.1 hx
  have := h k _ (List.getElem?_eq_getElem hk)
  simpa using this
/-- The row while it is rewritten. -/
structure Mid (a : Int) (xs : List It) (i j : Nat) (ys : List It) : Prop where
  len : ys.length = xs.length
  lt : i < j
  le : j ≤ xs.length
  done : ys.take i = keeps a (xs.take j)
  rest : ∀ k, j ≤ k → ys[k]? = xs[k]?
theorem Mid.skip {a : Int} {xs ys : List It} {i j : Nat} (h : Mid a xs i j ys) {x : It} (hx : xs[j]? = some x) (he : x.at_ = a) : Mid a xs i (j + 1) ys := by
  have hl := (List.getElem?_eq_some_iff.1 hx).1
  exact ⟨h.len, by have := h.lt; omega, by omega, by rw [keeps_take hx, if_pos he, List.append_nil]; exact h.done, fun k hk => h.rest k (by omega)⟩
theorem Mid.keep {a : Int} {xs ys : List It} {i j : Nat} (h : Mid a xs i j ys) {x : It} (hx : xs[j]? = some x) (he : x.at_ ≠ a) : Mid a xs (i + 1) (j + 1) (ys.set i x) := by
  have hl := (List.getElem?_eq_some_iff.1 hx).1
  have hlt := h.lt
  have hlen := h.len
  refine ⟨by rw [List.length_set]; exact h.len, by omega, by omega, ?_, fun k hk => ?_⟩
  · rw [keeps_take hx, if_neg he, ← h.done, List.take_succ_eq_append_getElem (by rw [List.length_set]; omega), List.take_set_of_le (Nat.le_refl _)]
    simp
  · rw [List.getElem?_set, if_neg (by omega)]
    exact h.rest k (by omega)
theorem there3 {w : World} {b o : Nat} (h : w.there b o 3) : (∃ v, w.cell? ⟨b, o, none⟩ = some v) ∧ (∃ v, w.cell? ⟨b, o + 1, none⟩ = some v) ∧ ∃ v, w.cell? ⟨b, o + 2, none⟩ = some v :=
  ⟨Option.isSome_iff_exists.1 (h 0 (by omega)).1, Option.isSome_iff_exists.1 (h 1 (by omega)).1, Option.isSome_iff_exists.1 (h 2 (by omega)).1⟩
theorem zero_it (w : World) : (zeroValue IT).run Try.prog w = .ok (.agg #[.int .i64 0, .int .i64 0, .int .i64 0]) w := by kernel_rfl
set_option maxHeartbeats 4000000 in
theorem delete_calls (w : World) (g c : Nat) (xs : List It) (a : Int) (B : Nat) (hR : Recs encI 3 w IT g c xs) (hB : B < w.heap.size) (hgB : B ≠ g) (hc : w.cell? ⟨B, 0, none⟩ = some (.int .i64 a)) (hl : xs.length ≤ 1000000) :
    Calls Try.prog 82 #[.slice (some ⟨g, 0, none⟩) xs.length c, FV B] w fun e w' => e = .returned (.slice (some ⟨g, 0, none⟩) (keeps a xs).length c) ∧ Recs encI 3 w' IT g c (keeps a xs) ∧ Kept [g] w w' := by
  have HR := Lib.hid hR
  have HC := Lib.hid (And.intro hB hc)
  have HI := Lib.hid (index_calls w g c xs a B hR hB hc hl)
  have hcap := hR.cap
  clear hR hB hc
  by_cases hno : ∀ (k : Nat) (x : It), xs[k]? = some x → x.at_ ≠ a
  · rw [idxV_none hno] at HI
    rw [keeps_all hno]
    clear hno
    go_enter Try.func82, Try.ntmps82
    go_wp2_with fail
    refine HI.out.mono ?_
    rintro e w1 ⟨rfl, hb1⟩
    go_wp2_with fail
    go_ret
    exact ⟨rfl, HR.out.below hb1, Kept.of_below hb1 _⟩
  · obtain ⟨k0, x0, hx0, hxa, hfirst⟩ : ∃ (k : Nat) (x : It), xs[k]? = some x ∧ x.at_ = a ∧ ∀ (j : Nat) (y : It), j < k → xs[j]? = some y → y.at_ ≠ a := by
      cases hf : xs.findIdx? fun x => x.at_ == a with
      | none =>
        rw [List.findIdx?_eq_none_iff] at hf
        refine absurd (fun k x hk => ?_) hno
        have := hf x (List.mem_of_getElem? hk)
        simpa using this
      | some k =>
        rw [List.findIdx?_eq_some_iff_getElem] at hf
        obtain ⟨h1, h2, h3⟩ := hf
        refine ⟨k, xs[k], List.getElem?_eq_getElem h1, by simpa using h2, fun j y hj hy => ?_⟩
        have := h3 j hj
        obtain ⟨hl, rfl⟩ := List.getElem?_eq_some_iff.1 hy
        simpa using this
    rw [idxV_some hx0 hxa hfirst] at HI
    have hk0 := (List.getElem?_eq_some_iff.1 hx0).1
    have hd0 : xs.take k0 = keeps a (xs.take (k0 + 1)) := by
      rw [keeps_take hx0, if_pos hxa, List.append_nil, keeps_all]
      intro k x hk
      by_cases hlt : k < k0
      · rw [List.getElem?_take, if_pos hlt] at hk
        exact hfirst k x hlt hk
      · rw [List.getElem?_take, if_neg hlt] at hk
        cases hk
    have HM0 := Lib.hid (show Mid a xs k0 (k0 + 1) xs from ⟨rfl, by omega, by omega, hd0, fun _ _ => rfl⟩)
    clear hd0
    have hne : ((k0 : Int) == -1) = false := beq_eq_false_iff_ne.2 (by omega)
    clear hno hx0 hxa hfirst
    go_enter Try.func82, Try.ntmps82
    go_wp2_with fail
    refine HI.out.mono ?_
    rintro e w1 ⟨rfl, hb1⟩
    have HR1 := Lib.hid (HR.out.below hb1)
    have HK1 := Lib.hid (Kept.of_below hb1 [g])
    clear hb1
    go_wp2_with fail
    go_loopw [5, 6, 7] (fun s5 s6 _ wr => ∃ (i j : Nat) (ys : List It), s5 = .int .i64 i ∧ s6 = .int .i64 j ∧ Mid a xs i j ys ∧ Recs encI 3 wr IT g c ys ∧ Kept [g] w wr) (fun _ s6 _ _ => xs.length - (intOf s6).toNat)
    case atStart => exact ⟨k0, k0 + 1, xs, rfl, by go_num, HM0.out, HR1.out, HK1.out⟩
    case round =>
      obtain ⟨i, j, ys, rfl, rfl, hM, hRy, hK⟩ := hrel
      have HM := Lib.hid hM
      have HRy := Lib.hid hRy
      have HK := Lib.hid hK
      have hij := hM.lt
      have hjl := hM.le
      have hyl := hM.len
      clear hM hRy hK HR1 HK1 HM0
      have hi0 : (0 : Int) ≤ (i : Int) := by omega
      have hj0 : (0 : Int) ≤ (j : Int) := by omega
      by_cases hlt : j < xs.length
      · obtain ⟨x, hx⟩ : ∃ x, xs[j]? = some x := ⟨_, List.getElem?_eq_getElem hlt⟩
        have hj1 : (j : Int) < (xs.length : Int) := by omega
        have hi1 : (i : Int) < (xs.length : Int) := by omega
        obtain ⟨r0, r1, r2⟩ := rec_cells HRy.out (k := j) (x := x) (by rw [HM.out.rest j (Nat.le_refl _)]; exact hx)
        have HX := Lib.hid hx
        have HCr := Lib.hid (show B < wr.heap.size ∧ wr.cell? ⟨B, 0, none⟩ = some (.int .i64 a) from ⟨Nat.lt_of_lt_of_le HC.out.1 HK.out.size, (World.cell?_of_block (a := ⟨B, 0, none⟩) (HK.out.block B HC.out.1 (by simpa using hgB))).trans HC.out.2⟩)
        clear hx
        have hb2 := (Below.refl wr.heap.size wr).alloc (Nat.le_refl _) (.cells #[.int .i64 x.frm, .int .i64 x.at_, .int .i64 x.seq] IT)
        have hq2 := Blk.new wr #[.int .i64 x.frm, .int .i64 x.at_, .int .i64 x.seq] IT
        have HR2 := Lib.hid (HRy.out.below hb2)
        have HK2 := Lib.hid (HK.out.and_below hb2)
        have HQ2 := Lib.hid hq2
        have HC2 := Lib.hid (And.intro (Nat.lt_of_lt_of_le HCr.out.1 hb2.size) ((hb2.cell (p := ⟨B, 0, none⟩) HCr.out.1).trans HCr.out.2))
        have HGq := Lib.hid (show g ≠ wr.heap.size from by have := HRy.out.lt; omega)
        clear hq2 hb2 HRy HCr HK
        go_upto_region 8 with fail
        clear r0 r1 r2
        generalize wr.alloc (.cells #[.int .i64 x.frm, .int .i64 x.at_, .int .i64 x.seq] IT) = w2 at HR2 HK2 HQ2 HC2 ⊢
        generalize wr.heap.size = q at HQ2 HGq ⊢
        have b0 := HQ2.out.cell (o := 0) rfl
        have b1 := HQ2.out.cell (o := 1) rfl
        have b2 := HQ2.out.cell (o := 2) rfl
        have HD := Lib.hid (del1_calls w2 B a x HC2.out.1 HC2.out.2)
        by_cases he : x.at_ = a
        · rw [show (x.at_ == a) = true by simpa using he] at HD
          have HE := Lib.hid he
          clear he
          go_wp2_with (first | (go_at_call 83; (with_reducible refine (Calls.mono HD.out ?_)); rintro e w3 ⟨rfl, hb3⟩) | fail)
          go_roundw
          case rel => exact ⟨i, j + 1, ys, rfl, by go_num, HM.out.skip HX.out HE.out, HR2.out.below hb3, HK2.out.and_below hb3⟩
          case measure => simp [intOf]; omega
        · rw [show (x.at_ == a) = false by simpa using he] at HD
          have HE := Lib.hid he
          clear he
          go_upto_region 9 with (first | (go_at_call 83; (with_reducible refine (Calls.mono HD.out ?_)); rintro e w3 ⟨rfl, hb3⟩) | fail)
          have HR3 := Lib.hid (HR2.out.below hb3)
          have HK3 := Lib.hid (HK2.out.and_below hb3)
          have hq3 := HQ2.out.below hb3
          clear b0 b1 b2 hb3
          have b0 := hq3.cell (o := 0) rfl
          have b1 := hq3.cell (o := 1) rfl
          have b2 := hq3.cell (o := 2) rfl
          have HT := Lib.hid (show w3.there g (i * 3) 3 from by have := HR3.out.there (k := i) (m := 1) (by omega); simpa using this)
          clear hq3
          obtain ⟨⟨v0, u0⟩, ⟨v1, u1⟩, ⟨v2, u2⟩⟩ := there3 HT.out
          have f0 := (HT.out 0 (by omega)).2
          have f1 := (HT.out 1 (by omega)).2
          have f2 := (HT.out 2 (by omega)).2
          rw [Nat.add_zero] at f0
          go_wp2_with fail
          go_roundw
          case rel =>
            have hp := HR3.out.put encI_len (k := i) (by omega) x
            exact ⟨i + 1, j + 1, ys.set i x, by go_num, by go_num, HM.out.keep HX.out HE.out, hp, HK3.out.setCells (.inl (by simp)) (encI x) (i * 3)⟩
          case measure => simp [intOf]; omega
      · obtain rfl : j = xs.length := by omega
        obtain ⟨vs, hvl, hcl⟩ : ∃ vs : List Value, vs.length = (xs.length - i) * 3 ∧ ∀ ty, (Builtin.clear_ #[100] ty #[.slice (some ⟨g, i * 3, none⟩) (xs.length - i) (c - i)]).run Try.prog wr = .ok (.tuple #[]) (wr.setCells g (i * 3) vs) := by
          have hth := HRy.out.there (k := i) (m := xs.length - i) (by omega)
          obtain ⟨vs, h1, h2⟩ := run_clear_recs (P := Try.prog) wr 100 IT 0 _ 3 Try.underlying100 zero_it rfl (by intro v hv; simp [Value.cells] at hv; subst hv; rfl) g (i * 3) (xs.length - i) (c - i) (by omega) hth
          exact ⟨vs, h1, fun _ => h2⟩
        have HV := Lib.hid hvl
        clear hvl
        have hci : ¬ c = i := by omega
        go_wp2_with fail
        go_ret
        have hle : i ≤ ys.length := by omega
        have hd := HM.out.done
        rw [List.take_of_length_le (Nat.le_refl _)] at hd
        have hki : (keeps a xs).length = i := by rw [← hd, List.length_take]; omega
        have hcr := HRy.out.clear encI_len hle vs (by rw [HV.out]; have := HRy.out.cap; rw [← Nat.add_mul]; exact Nat.mul_le_mul_right _ (by omega))
        rw [hd] at hcr
        exact ⟨by rw [hki]; rfl, hcr, HK.out.setCells (.inl (by simp)) vs (i * 3)⟩
end Go.Proofs.Ytchnhmcedmicgaa.Rem
