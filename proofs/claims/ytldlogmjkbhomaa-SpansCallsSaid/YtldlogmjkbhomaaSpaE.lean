/- The contracts of slices.DeleteFunc and slices.IndexFunc, as package spans calls them. -/
import Derived.Test.YtldlogmjkbhomaaSpaD
namespace Go.Proofs.Ytldlogmjkbhomaa.Spa
open Go.RowKit Go.Proofs.Ytldlogmjkbhomaa.Aid
theorem zcells_mem (z : Array Value) (n : Nat) : ∀ v ∈ (Builtin.zeroCells z n).toList, v ∈ z := by
  intro v hv
  unfold Builtin.zeroCells at hv
  simp at hv
  obtain ⟨i, hi, rfl⟩ := hv
  have hz : 0 < z.size := by
    rcases Nat.eq_zero_or_pos z.size with h | h
    · rw [h] at hi; omega
    · exact h
  rw [getElem!_pos z _ (Nat.mod_lt _ hz)]
  exact Array.getElem_mem _
theorem run_clear_recs {P : Program} (w : World) (t e ty : TypeId) (z : Value) (sz : Nat) (ht : P.underlying t = some (.slice e)) (hv : ∀ w, (zeroValue e).run P w = .ok z w) (hz : z.cells.size = sz) (h1 : ∀ v ∈ z.cells, v.oneCell' = true) (b o n c : Nat) (hn : 0 < n) (hth : w.there b o (n * sz)) :
    ∃ vs : List Value, vs.length = n * sz ∧ (Builtin.clear_ #[t] ty #[.slice (some ⟨b, o, none⟩) n c]).run P w = .ok (.tuple #[]) (w.setCells b o vs) := by
  have hl : (Builtin.zeroCells z.cells n).toList.length = n * sz := by simp [size_zeroCells, hz]
  have hst := run_storeCells_cells (P := P) b o (Builtin.zeroCells z.cells n).toList 0 w (fun j hj => by rw [Nat.add_zero]; exact (hth j (by omega)).1) (fun j hj => by rw [Nat.add_zero]; exact (hth j (by omega)).2) (fun v hv' => h1 v (zcells_mem _ _ v hv'))
  simp only [Nat.add_zero] at hst
  obtain ⟨m, rfl⟩ : ∃ m, n = m + 1 := ⟨n - 1, by omega⟩
  exact ⟨_, hl, by simp [Builtin.clear_, run_underlying ht, hv, hst]⟩
theorem del1_calls (w : World) (x : Rn) :
    Calls Try.prog 91 #[.agg #[.int .i64 x.p, .int .i64 x.n, .bool x.t]] w fun e w' => e = .returned (.bool (x.n == 0)) ∧ Below w.heap.size w w' := by
  by_cases h : x.n = 0
  · have h' : ((x.n : Nat) : Int) = 0 := by omega
    rw [show (x.n == 0) = true by simpa using h]
    clear h
    go_enter Try.func91, Try.ntmps91
    go_wp2_with fail
    go_ret
    exact ⟨ret_bool (by simp), (Below.refl _ _).alloc (Nat.le_refl _) _⟩
  · have h' : (((x.n : Nat) : Int) == 0) = false := by simp; omega
    rw [show (x.n == 0) = false by simpa using h]
    clear h
    go_enter Try.func91, Try.ntmps91
    go_wp2_with fail
    go_ret
    exact ⟨rfl, (Below.refl _ _).alloc (Nat.le_refl _) _⟩
def idxV (xs : List Rn) : Int := match xs.findIdx? fun x => x.n == 0 with
  | some k => (k : Int)
  | none => -1
theorem idxV_none {xs : List Rn} (h : ∀ (k : Nat) (x : Rn), xs[k]? = some x → x.n ≠ 0) : idxV xs = -1 := by
  unfold idxV
  rw [List.findIdx?_eq_none_iff.2]
  intro x hx
  obtain ⟨k, hk, rfl⟩ := List.mem_iff_getElem.1 hx
  have := h k _ (List.getElem?_eq_getElem hk)
  simpa using this
theorem idxV_some {xs : List Rn} {k : Nat} {x : Rn} (hk : xs[k]? = some x) (hx : x.n = 0) (h : ∀ (j : Nat) (y : Rn), j < k → xs[j]? = some y → y.n ≠ 0) : idxV xs = k := by
  unfold idxV
  obtain ⟨hl, rfl⟩ := List.getElem?_eq_some_iff.1 hk
  rw [List.findIdx?_eq_some_iff_getElem.2 ⟨hl, by simpa using hx, fun j hj => by
    have := h j _ hj (List.getElem?_eq_getElem (by omega))
    simpa using this⟩]
/-- What a record's cells say. -/
theorem rec_cells {w : World} {g c : Nat} {xs : List Rn} (h : Recs encR 3 w RT g c xs) {k : Nat} {x : Rn} (hk : xs[k]? = some x) : w.cell? ⟨g, k * 3, none⟩ = some (.int .i64 x.p) ∧ w.cell? ⟨g, k * 3 + 1, none⟩ = some (.int .i64 x.n) ∧ w.cell? ⟨g, k * 3 + 2, none⟩ = some (.bool x.t) :=
  ⟨h.at_ encR_len hk (j := 0) rfl, h.at_ encR_len hk (j := 1) rfl, h.at_ encR_len hk (j := 2) rfl⟩
abbrev FVd : Value := .func (.func 91) #[] #[]
theorem indexf_calls (w : World) (g c : Nat) (xs : List Rn) (hR : Recs encR 3 w RT g c xs) (hl : xs.length ≤ 1000000) :
    Calls Try.prog 105 #[.slice (some ⟨g, 0, none⟩) xs.length c, FVd] w fun e w' => e = .returned (.int .i64 (idxV xs)) ∧ Below w.heap.size w w' := by
  have HR := Lib.hid hR
  clear hR
  go_enter Try.func105, Try.ntmps105
  go_wp2_with fail
  go_loopw [5, 8] (fun _ i wr => ∃ k : Nat, k ≤ xs.length ∧ i = .int .i64 k ∧ Below w.heap.size w wr ∧ ∀ (j : Nat) (y : Rn), j < k → xs[j]? = some y → y.n ≠ 0) (fun _ i _ => xs.length - (intOf i).toNat)
  case atStart => exact ⟨0, by omega, rfl, Below.refl _ _, fun j y hj => absurd hj (Nat.not_lt_zero _)⟩
  case round =>
    obtain ⟨k, hk, rfl, hb, hn⟩ := hrel
    have HB := Lib.hid hb
    have HN := Lib.hid hn
    clear hb hn
    by_cases hlt : k < xs.length
    · obtain ⟨x, hx⟩ : ∃ x, xs[k]? = some x := ⟨_, List.getElem?_eq_getElem hlt⟩
      have hk0 : (0 : Int) ≤ (k : Int) := by omega
      have hk1 : (k : Int) < (xs.length : Int) := by omega
      obtain ⟨q0, q1, q2⟩ := rec_cells (HR.out.below HB.out) hx
      have HX := Lib.hid hx
      have HD := Lib.hid (del1_calls wr x)
      clear hx
      by_cases he : x.n = 0
      · rw [show (x.n == 0) = true by simpa using he] at HD
        have HE := Lib.hid he
        clear he
        go_wp2_with (first | (go_at_call 91; (with_reducible refine (Calls.mono HD.out ?_)); rintro e w1 ⟨rfl, hb1⟩) | fail)
        go_ret
        exact ⟨by rw [idxV_some HX.out HE.out HN.out]; rfl, below_then HB.out hb1⟩
      · rw [show (x.n == 0) = false by simpa using he] at HD
        have HE := Lib.hid he
        clear he
        go_wp2_with (first | (go_at_call 91; (with_reducible refine (Calls.mono HD.out ?_)); rintro e w1 ⟨rfl, hb1⟩) | fail)
        go_roundw
        case rel =>
          refine ⟨k + 1, by omega, by go_num, below_then HB.out hb1, fun j y hj hy => ?_⟩
          by_cases e : j = k
          · subst e
            have := HX.out.symm.trans hy
            injection this with this
            rw [← this]; exact HE.out
          · exact HN.out j y (by omega) hy
        case measure => simp [intOf]; omega
    · obtain rfl : k = xs.length := by omega
      go_wp2_with fail
      go_ret
      exact ⟨by rw [idxV_none fun j y hy => HN.out j y (List.getElem?_eq_some_iff.1 hy).1 hy]; rfl, HB.out⟩
theorem full_take {xs : List Rn} {j : Nat} {x : Rn} (hx : xs[j]? = some x) : full (xs.take (j + 1)) = full (xs.take j) ++ (if x.n = 0 then [] else [x]) := by
  obtain ⟨hl, rfl⟩ := List.getElem?_eq_some_iff.1 hx
  unfold full
  rw [List.take_succ_eq_append_getElem hl, List.filter_append]
  congr 1
  by_cases e : xs[j].n = 0
  · rw [if_pos e, List.filter_cons_of_neg (by simp [e])]; rfl
  · rw [if_neg e, List.filter_cons_of_pos (by simpa using e)]; rfl
theorem full_all {xs : List Rn} (h : ∀ (k : Nat) (x : Rn), xs[k]? = some x → x.n ≠ 0) : full xs = xs := by
  unfold full
  rw [List.filter_eq_self]
  intro x hx
  obtain ⟨k, hk, rfl⟩ := List.mem_iff_getElem.1 hx
  have := h k _ (List.getElem?_eq_getElem hk)
  simpa using this
/-- The row while it is rewritten. -/
structure Mid (xs : List Rn) (i j : Nat) (ys : List Rn) : Prop where
  len : ys.length = xs.length
  lt : i < j
  le : j ≤ xs.length
  done : ys.take i = full (xs.take j)
  rest : ∀ k, j ≤ k → ys[k]? = xs[k]?
theorem Mid.skip {xs ys : List Rn} {i j : Nat} (h : Mid xs i j ys) {x : Rn} (hx : xs[j]? = some x) (he : x.n = 0) : Mid xs i (j + 1) ys := by
  have hl := (List.getElem?_eq_some_iff.1 hx).1
  exact ⟨h.len, by have := h.lt; omega, by omega, by rw [full_take hx, if_pos he, List.append_nil]; exact h.done, fun k hk => h.rest k (by omega)⟩
theorem Mid.keep {xs ys : List Rn} {i j : Nat} (h : Mid xs i j ys) {x : Rn} (hx : xs[j]? = some x) (he : x.n ≠ 0) : Mid xs (i + 1) (j + 1) (ys.set i x) := by
  have hl := (List.getElem?_eq_some_iff.1 hx).1
  have hlt := h.lt
  have hlen := h.len
  refine ⟨by rw [List.length_set]; exact h.len, by omega, by omega, ?_, fun k hk => ?_⟩
  · rw [full_take hx, if_neg he, ← h.done, List.take_succ_eq_append_getElem (by rw [List.length_set]; omega), List.take_set_of_le (Nat.le_refl _)]
    simp
  · rw [List.getElem?_set, if_neg (by omega)]
    exact h.rest k (by omega)
theorem there3 {w : World} {b o : Nat} (h : w.there b o 3) : (∃ v, w.cell? ⟨b, o, none⟩ = some v) ∧ (∃ v, w.cell? ⟨b, o + 1, none⟩ = some v) ∧ ∃ v, w.cell? ⟨b, o + 2, none⟩ = some v :=
  ⟨Option.isSome_iff_exists.1 (h 0 (by omega)).1, Option.isSome_iff_exists.1 (h 1 (by omega)).1, Option.isSome_iff_exists.1 (h 2 (by omega)).1⟩
theorem zero_run (w : World) : (zeroValue RT).run Try.prog w = .ok (.agg #[.int .i64 0, .int .i64 0, .bool false]) w := by kernel_rfl
set_option maxHeartbeats 4000000 in
theorem delete_calls (w : World) (g c : Nat) (xs : List Rn) (hR : Recs encR 3 w RT g c xs) (hl : xs.length ≤ 1000000) :
    Calls Try.prog 90 #[.slice (some ⟨g, 0, none⟩) xs.length c, FVd] w fun e w' => e = .returned (.slice (some ⟨g, 0, none⟩) (full xs).length c) ∧ Recs encR 3 w' RT g c (full xs) ∧ Kept [g] w w' := by
  have HR := Lib.hid hR
  have HI := Lib.hid (indexf_calls w g c xs hR hl)
  have hcap := hR.cap
  clear hR
  by_cases hno : ∀ (k : Nat) (x : Rn), xs[k]? = some x → x.n ≠ 0
  · rw [idxV_none hno] at HI
    rw [full_all hno]
    clear hno
    go_enter Try.func90, Try.ntmps90
    go_wp2_with fail
    refine HI.out.mono ?_
    rintro e w1 ⟨rfl, hb1⟩
    go_wp2_with fail
    go_ret
    exact ⟨rfl, HR.out.below hb1, Kept.of_below hb1 _⟩
  · obtain ⟨k0, x0, hx0, hxa, hfirst⟩ : ∃ (k : Nat) (x : Rn), xs[k]? = some x ∧ x.n = 0 ∧ ∀ (j : Nat) (y : Rn), j < k → xs[j]? = some y → y.n ≠ 0 := by
      cases hf : xs.findIdx? fun x => x.n == 0 with
      | none =>
        rw [List.findIdx?_eq_none_iff] at hf
        refine absurd (fun k x hk => ?_) hno
        have := hf x (List.mem_of_getElem? hk)
        simpa using this
      | some k =>
        rw [List.findIdx?_eq_some_iff_getElem] at hf
        obtain ⟨h1, h2, h3⟩ := hf
        refine ⟨k, xs[k], List.getElem?_eq_getElem h1, by simpa using h2, fun j y hj hy => ?_⟩
        have := h3 j hj
        obtain ⟨hl, rfl⟩ := List.getElem?_eq_some_iff.1 hy
        simpa using this
    rw [idxV_some hx0 hxa hfirst] at HI
    have hk0 := (List.getElem?_eq_some_iff.1 hx0).1
    have hd0 : xs.take k0 = full (xs.take (k0 + 1)) := by
      rw [full_take hx0, if_pos hxa, List.append_nil, full_all]
      intro k x hk
      by_cases hlt : k < k0
      · rw [List.getElem?_take, if_pos hlt] at hk
        exact hfirst k x hlt hk
      · rw [List.getElem?_take, if_neg hlt] at hk
        cases hk
    have HM0 := Lib.hid (show Mid xs k0 (k0 + 1) xs from ⟨rfl, by omega, by omega, hd0, fun _ _ => rfl⟩)
    clear hd0
    have hne : ((k0 : Int) == -1) = false := beq_eq_false_iff_ne.2 (by omega)
    clear hno hx0 hxa hfirst
    go_enter Try.func90, Try.ntmps90
    go_wp2_with fail
    refine HI.out.mono ?_
    rintro e w1 ⟨rfl, hb1⟩
    have HR1 := Lib.hid (HR.out.below hb1)
    have HK1 := Lib.hid (Kept.of_below hb1 [g])
    clear hb1
    go_wp2_with fail
    go_loopw [5, 6, 7] (fun s5 s6 _ wr => ∃ (i j : Nat) (ys : List Rn), s5 = .int .i64 i ∧ s6 = .int .i64 j ∧ Mid xs i j ys ∧ Recs encR 3 wr RT g c ys ∧ Kept [g] w wr) (fun _ s6 _ _ => xs.length - (intOf s6).toNat)
    case atStart => exact ⟨k0, k0 + 1, xs, rfl, by go_num, HM0.out, HR1.out, HK1.out⟩
    case round =>
      obtain ⟨i, j, ys, rfl, rfl, hM, hRy, hK⟩ := hrel
      have HM := Lib.hid hM
      have HRy := Lib.hid hRy
      have HK := Lib.hid hK
      have hij := hM.lt
      have hjl := hM.le
      have hyl := hM.len
      clear hM hRy hK HR1 HK1 HM0
      have hi0 : (0 : Int) ≤ (i : Int) := by omega
      have hj0 : (0 : Int) ≤ (j : Int) := by omega
      by_cases hlt : j < xs.length
      · obtain ⟨x, hx⟩ : ∃ x, xs[j]? = some x := ⟨_, List.getElem?_eq_getElem hlt⟩
        have hj1 : (j : Int) < (xs.length : Int) := by omega
        have hi1 : (i : Int) < (xs.length : Int) := by omega
        obtain ⟨q0, q1, q2⟩ := rec_cells HRy.out (k := j) (x := x) (by rw [HM.out.rest j (Nat.le_refl _)]; exact hx)
        have HX := Lib.hid hx
        clear hx
        have hb2 := (Below.refl wr.heap.size wr).alloc (Nat.le_refl _) (.cells #[.int .i64 x.p, .int .i64 x.n, .bool x.t] RT)
        have hq2 := Blk.new wr #[.int .i64 x.p, .int .i64 x.n, .bool x.t] RT
        have HR2 := Lib.hid (HRy.out.below hb2)
        have HK2 := Lib.hid (HK.out.and_below hb2)
        have HQ2 := Lib.hid hq2
        have HGq := Lib.hid (show g ≠ wr.heap.size from by have := HRy.out.lt; omega)
        clear hq2 hb2 HRy HK
        go_upto_region 8 with fail
        clear q0 q1 q2
        generalize wr.alloc (.cells #[.int .i64 x.p, .int .i64 x.n, .bool x.t] RT) = w2 at HR2 HK2 HQ2 ⊢
        generalize wr.heap.size = q at HQ2 HGq ⊢
        have b0 := HQ2.out.cell (o := 0) rfl
        have b1 := HQ2.out.cell (o := 1) rfl
        have b2 := HQ2.out.cell (o := 2) rfl
        have HD := Lib.hid (del1_calls w2 x)
        by_cases he : x.n = 0
        · rw [show (x.n == 0) = true by simpa using he] at HD
          have HE := Lib.hid he
          clear he
          go_wp2_with (first | (go_at_call 91; (with_reducible refine (Calls.mono HD.out ?_)); rintro e w3 ⟨rfl, hb3⟩) | fail)
          go_roundw
          case rel => exact ⟨i, j + 1, ys, rfl, by go_num, HM.out.skip HX.out HE.out, HR2.out.below hb3, HK2.out.and_below hb3⟩
          case measure => simp [intOf]; omega
        · rw [show (x.n == 0) = false by simpa using he] at HD
          have HE := Lib.hid he
          clear he
          go_upto_region 9 with (first | (go_at_call 91; (with_reducible refine (Calls.mono HD.out ?_)); rintro e w3 ⟨rfl, hb3⟩) | fail)
          have HR3 := Lib.hid (HR2.out.below hb3)
          have HK3 := Lib.hid (HK2.out.and_below hb3)
          have hq3 := HQ2.out.below hb3
          clear b0 b1 b2 hb3
          have b0 := hq3.cell (o := 0) rfl
          have b1 := hq3.cell (o := 1) rfl
          have b2 := hq3.cell (o := 2) rfl
          have HT := Lib.hid (show w3.there g (i * 3) 3 from by have := HR3.out.there (k := i) (m := 1) (by omega); simpa using this)
          clear hq3
          obtain ⟨⟨v0, u0⟩, ⟨v1, u1⟩, ⟨v2, u2⟩⟩ := there3 HT.out
          have f0 := (HT.out 0 (by omega)).2
          have f1 := (HT.out 1 (by omega)).2
          have f2 := (HT.out 2 (by omega)).2
          rw [Nat.add_zero] at f0
          go_wp2_with fail
          go_roundw
          case rel =>
            have hp := HR3.out.put encR_len (k := i) (by omega) x
            exact ⟨i + 1, j + 1, ys.set i x, by go_num, by go_num, HM.out.keep HX.out HE.out, hp, HK3.out.setCells (.inl (by simp)) (encR x) (i * 3)⟩
          case measure => simp [intOf]; omega
      · obtain rfl : j = xs.length := by omega
        obtain ⟨vs, hvl, hcl⟩ : ∃ vs : List Value, vs.length = (xs.length - i) * 3 ∧ ∀ ty, (Builtin.clear_ #[94] ty #[.slice (some ⟨g, i * 3, none⟩) (xs.length - i) (c - i)]).run Try.prog wr = .ok (.tuple #[]) (wr.setCells g (i * 3) vs) := by
          have hth := HRy.out.there (k := i) (m := xs.length - i) (by omega)
          obtain ⟨vs, h1, h2⟩ := run_clear_recs (P := Try.prog) wr 94 RT 0 _ 3 Try.underlying94 zero_run rfl (by intro v hv; simp [Value.cells] at hv; rcases hv with rfl | rfl <;> rfl) g (i * 3) (xs.length - i) (c - i) (by omega) hth
          exact ⟨vs, h1, fun _ => h2⟩
        have HV := Lib.hid hvl
        clear hvl
        have hci : ¬ c = i := by omega
        go_wp2_with fail
        go_ret
        have hle : i ≤ ys.length := by omega
        have hd := HM.out.done
        rw [List.take_of_length_le (Nat.le_refl _)] at hd
        have hki : (full xs).length = i := by rw [← hd, List.length_take]; omega
        have hcr := HRy.out.clear encR_len hle vs (by rw [HV.out]; have := HRy.out.cap; rw [← Nat.add_mul]; exact Nat.mul_le_mul_right _ (by omega))
        rw [hd] at hcr
        exact ⟨by rw [hki]; rfl, hcr, HK.out.setCells (.inl (by simp)) vs (i * 3)⟩
end Go.Proofs.Ytldlogmjkbhomaa.Spa
