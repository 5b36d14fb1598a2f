/- The contract of the reference's Do. -/
import Derived.Test.YtchnhmcedmicgaaLedR
namespace Go.Proofs.Ytchnhmcedmicgaa.Led
open Go.RowKit Go.Proofs.Ytchnhmcedmicgaa.Aid
/-- What a call of the reference's gives. -/
def RGives (rp sb : Nat) (av : List Nat) (cap : Int) (s : Run) (what k t n : Int) (w : World) (e : Ending) (w' : World) : Prop :=
  e = .returned (.int .i64 (stepL cap s.row what k t n).1) ∧ ∃ sb' c', RefAt w' rp sb' c' av cap (stepR cap s what k t n).hist ∧ Kept [rp, sb] w w' ∧ (sb' = sb ∨ w.heap.size ≤ sb')
theorem rgives_no {rp sb c : Nat} {av : List Nat} {cap : Int} {s : Run} {what k t n x : Int} {w w' : World} (h : RefAt w rp sb c av cap s.hist) (hs : stepL cap s.row what k t n = (x, none)) (hb : Below w.heap.size w w') : RGives rp sb av cap s what k t n w (.returned (.int .i64 x)) w' := by
  refine ⟨by rw [hs], sb, c, ?_, Kept.of_below hb _, .inl rfl⟩
  unfold stepR
  rw [hs]
  exact h.below hb
theorem rgives_yes {rp sb sb' c : Nat} {av : List Nat} {cap : Int} {s : Run} {what k t n : Int} {r' : List Int} {w w' : World} (hs : stepL cap s.row what k t n = (0, some r')) (h : RefAt w' rp sb' c av cap (s.hist ++ [r'])) (hk : Kept [rp, sb] w w') (hl : sb' = sb ∨ w.heap.size ≤ sb') :
    RGives rp sb av cap s what k t n w (.returned (.int .i64 0)) w' := by
  refine ⟨by rw [hs], sb', c, ?_, hk, hl⟩
  unfold stepR
  rw [hs]
  exact h
theorem row_cell {w : World} {e : TypeId} {g c : Nat} {r : List Int} (h : Row w e g c (r.map (.int .i64))) {k : Nat} (hk : k < r.length) : w.cell? ⟨g, k, none⟩ = some (.int .i64 (g8 r k)) := by
  rw [h.cell (by simpa using hk)]
  simp [g8, List.getD_eq_getElem?_getD, hk]
theorem row_add {w : World} {e : TypeId} {g c : Nat} {r : List Int} (h : Row w e g c (r.map (.int .i64))) (k : Nat) (n : Int) : Row (w.setCell ⟨g, k, none⟩ (.int .i64 (g8 r k + n))) e g c ((add r k n).map (.int .i64)) := by
  have := h.store k (.int .i64 (g8 r k + n))
  rw [← List.map_set] at this
  exact this

theorem rdo_no (w : World) (rp sb c : Nat) (av : List Nat) (cap : Int) (s : Run) (what k t n : Int) (h : RefAt w rp sb c av cap s.hist) (hw : what = 0 ∨ what = 1 ∨ what = 2) (hr : (if what = 2 then (right k n && right t n) else right k n) = false) :
    Calls Try.prog 16 #[.pointer (some ⟨rp, 0, none⟩), .int .i64 what, .int .i64 k, .int .i64 t, .int .i64 n] w (RGives rp sb av cap s what k t n w) := by
  have HH := Lib.hid h
  have HST := Lib.hid (show stepL cap s.row what k t n = (11, none) by
    unfold stepL
    rcases hw with rfl | rfl | rfl
    · rw [if_neg (by decide)] at hr
      rw [if_pos rfl, if_neg (by rw [hr]; simp)]
    · rw [if_neg (by decide)] at hr
      rw [if_neg (by decide), if_pos rfl, if_neg (by rw [hr]; simp)]
    · rw [if_pos rfl] at hr
      rw [if_neg (by decide), if_neg (by decide), if_neg (by rw [hr]; simp)])
  clear h
  have hcases : k < 0 ∨ (¬ k < 0 ∧ 7 < k) ∨ (¬ k < 0 ∧ ¬ 7 < k ∧ n < 0) ∨ (¬ k < 0 ∧ ¬ 7 < k ∧ ¬ n < 0 ∧ what = 2 ∧ t < 0) ∨ (¬ k < 0 ∧ ¬ 7 < k ∧ ¬ n < 0 ∧ what = 2 ∧ ¬ t < 0 ∧ 7 < t) := by
    unfold right at hr
    by_cases h2 : what = 2
    · rw [if_pos h2] at hr
      rw [Bool.and_eq_false_iff] at hr
      simp only [decide_eq_false_iff_not] at hr
      omega
    · rw [if_neg h2] at hr
      simp only [decide_eq_false_iff_not] at hr
      omega
  clear hr hw
  rcases hcases with h1 | ⟨h1, h2⟩ | ⟨h1, h2, h3⟩ | ⟨h1, h2, h3, rfl, h4⟩ | ⟨h1, h2, h3, rfl, h4, h5⟩
  all_goals
    go_enter Try.func16, Try.ntmps16
    go_wp2_with fail
    go_ret
    exact rgives_no HH.out HST.out (Below.refl _ _)
set_option maxRecDepth 10000 in
set_option maxHeartbeats 4000000 in
theorem rdo_yes (w : World) (rp sb c : Nat) (av : List Nat) (cap : Int) (s : Run) (what k t n : Int) (h : RefAt w rp sb c av cap s.hist) (hok : OkS cap s) (hcap : cap ≤ 1099511627776) (hsm : s.hist.length ≤ 100000) (hav : ∀ y ∈ av, y < w.heap.size) (hw : what = 0 ∨ what = 1 ∨ what = 2) (hr : (if what = 2 then (right k n && right t n) else right k n) = true) :
    Calls Try.prog 16 #[.pointer (some ⟨rp, 0, none⟩), .int .i64 what, .int .i64 k, .int .i64 t, .int .i64 n] w (RGives rp sb av cap s what k t n w) := by
  have HH := Lib.hid h
  have HAV := Lib.hid hav
  have HSM := Lib.hid (show s.hist.length ≤ 1000000 by omega)
  have hrow := hok.row
  have HLN := Lib.hid hrow.len
  obtain ⟨hs0, hse⟩ := hok.ne
  have hl0 : hs0.length ≤ 1000000 := by have := HSM.out; rw [hse] at this; simp at this; omega
  have HNow := Lib.hid (fun w' (hb : Below w.heap.size w w') => rnow_calls w' rp sb c av cap hs0 s.row (by rw [← hse]; exact h.below hb) hl0)
  have HG0 := Lib.hid (show rp < w.heap.size ∧ sb < w.heap.size from ⟨h.head.lt, by obtain ⟨⟨hs, h1, _⟩, _⟩ := h.lists; exact h1.lt⟩)
  have hkn : 0 ≤ k ∧ k < 8 ∧ 0 ≤ n := by
    rcases hw with rfl | rfl | rfl
    · rw [if_neg (by decide)] at hr; exact right_true hr
    · rw [if_neg (by decide)] at hr; exact right_true hr
    · rw [if_pos rfl, Bool.and_eq_true] at hr; exact right_true hr.1
  have ht2 : what = 2 → 0 ≤ t ∧ t < 8 := by
    rintro rfl
    rw [if_pos rfl, Bool.and_eq_true] at hr
    have := right_true hr.2
    omega
  obtain ⟨hk0, hk8, hn0⟩ := hkn
  obtain ⟨k, rfl⟩ := Int.eq_ofNat_of_zero_le hk0
  have HR := Lib.hid hrow
  have hps := hrow.pos k
  have hgl := get_le hrow.pos (show k < 8 by omega)
  have hsl := hrow.le
  have hs0' := sumTo_pos hrow.pos 8
  have hk1 : ¬ (k : Int) < 0 := by omega
  have hk2 : ¬ 7 < (k : Int) := by omega
  have hn1 : ¬ n < 0 := by omega
  have Hr := Lib.hid hr
  clear h hok hse hrow hav hr
  have hba := (Below.refl w.heap.size w).alloc (Nat.le_refl _) (.cells #[] 3)
  have hown0 := Own.lit0 w w.heap.size (Nat.le_refl _) 3 .i64
  rcases hw with rfl | rfl | rfl
  · by_cases hfull : cap - sumTo s.row 8 < n
    · have HST := Lib.hid (show stepL cap s.row 0 (k : Int) t n = (18, none) by unfold stepL; rw [if_pos rfl, if_pos (by have := Hr.out; rw [if_neg (by decide)] at this; exact this), if_pos hfull])
      go_enter Try.func16, Try.ntmps16
      go_wp2_with fail
      refine (HNow.out _ hba).mono ?_
      rintro e w1 ⟨b1, c1', rfl, hi1, _, nq, rfl⟩
      have hown1 : Own ((w.alloc (.cells #[] 3)).drewN nq) w.heap.size 3 .i64 _ [] := hown0
      have hbd := below_drewN hba nq
      generalize (w.alloc (.cells #[] 3)).drewN nq = w1 at hi1 hown1 hbd ⊢
      have HBD := Lib.hid hbd
      go_upto_region 4 with (at_builtin; refine append_all rfl _ _ _ rfl w.heap.size 3 .i64 8 Try.underlying40 info_int _ [] rfl hown1 s.row _ _ (by rw [HLN.out]; rfl) hi1 (by simp [HLN.out]) (by simp [HLN.out]) hbd.size ?_; intro v2 w2 hown2 hb2 _ hnil)
      rw [List.nil_append] at hown2
      have hne : v2 ≠ .slice none 0 0 := fun e => by have := (hnil.1 e).1; cases this
      obtain ⟨g, c3, rfl, hl2, hrow2, hg⟩ := Row.of_own hown2 hne
      have HG := Lib.hid (show rp < g ∧ sb < g ∧ w.heap.size ≤ g from by have := HG0.out; omega)
      have hb3 : Below w.heap.size w w2 := HBD.out.trans (hb2.mono (Nat.le_refl _))
      rw [show s.row.length = 8 from HLN.out]
      clear hown2 hb2 hnil hi1 hown1 hbd hne hl2
      have HSum := Lib.hid (rsum_calls w2.drew (some ⟨g, 0, none⟩) c3 s.row HR.out hcap (show Ints w2.drew .i64 _ _ from hrow2.ints))
      have c0 := (HH.out.below hb3).head.cell (o := 0) rfl
      have hwr : IntKind.i64.wrap (cap - sumTo s.row 8) = cap - sumTo s.row 8 := IntWalk.i64_in _ (by omega)
      have HROW2 := Lib.hid hrow2
      have HB3 := Lib.hid hb3
      clear hrow2 hb3
      generalize sumTo s.row 8 = sm at HSum hwr hfull hsl hs0' hgl
      go_wp2_with fail
      go_region_held3 (fun w' => w'.cell? ⟨rp, 0, none⟩ = some (.int .i64 cap)) (first | exact c0)
        ((first | (go_at_call 21; with_reducible refine (Calls.mono HSum.out ?_); rintro e w3 ⟨rfl, rfl⟩)))
      clear c0 HSum
      go_wp2_with fail
      go_ret
      exact rgives_no HH.out HST.out HB3.out.drew
    · have HST := Lib.hid (show stepL cap s.row 0 (k : Int) t n = (0, some (add s.row k n)) by unfold stepL; rw [if_pos rfl, if_pos (by have := Hr.out; rw [if_neg (by decide)] at this; exact this), if_neg hfull, Int.toNat_natCast])
      have HLEN := Lib.hid (show (add s.row k n).length = 8 by rw [add_len]; exact HLN.out)
      have hadd : IntKind.i64.wrap (g8 s.row k + n) = g8 s.row k + n := IntWalk.i64_in _ (by unfold g8; omega)
      go_enter Try.func16, Try.ntmps16
      go_wp2_with fail
      refine (HNow.out _ hba).mono ?_
      rintro e w1 ⟨b1, c1', rfl, hi1, _, nq, rfl⟩
      have hown1 : Own ((w.alloc (.cells #[] 3)).drewN nq) w.heap.size 3 .i64 _ [] := hown0
      have hbd := below_drewN hba nq
      generalize (w.alloc (.cells #[] 3)).drewN nq = w1 at hi1 hown1 hbd ⊢
      have HBD := Lib.hid hbd
      go_upto_region 4 with (at_builtin; refine append_all rfl _ _ _ rfl w.heap.size 3 .i64 8 Try.underlying40 info_int _ [] rfl hown1 s.row _ _ (by rw [HLN.out]; rfl) hi1 (by simp [HLN.out]) (by simp [HLN.out]) hbd.size ?_; intro v2 w2 hown2 hb2 _ hnil)
      rw [List.nil_append] at hown2
      have hne : v2 ≠ .slice none 0 0 := fun e => by have := (hnil.1 e).1; cases this
      obtain ⟨g, c3, rfl, hl2, hrow2, hg⟩ := Row.of_own hown2 hne
      have HG := Lib.hid (show rp < g ∧ sb < g ∧ w.heap.size ≤ g from by have := HG0.out; omega)
      have hb3 : Below w.heap.size w w2 := HBD.out.trans (hb2.mono (Nat.le_refl _))
      rw [show s.row.length = 8 from HLN.out]
      clear hown2 hb2 hnil hi1 hown1 hbd hne hl2
      have HSum := Lib.hid (rsum_calls w2.drew (some ⟨g, 0, none⟩) c3 s.row HR.out hcap (show Ints w2.drew .i64 _ _ from hrow2.ints))
      have c0 := (HH.out.below hb3).head.cell (o := 0) rfl
      have hwr : IntKind.i64.wrap (cap - sumTo s.row 8) = cap - sumTo s.row 8 := IntWalk.i64_in _ (by omega)
      have HROW2 := Lib.hid hrow2
      have HB3 := Lib.hid hb3
      clear hrow2 hb3
      generalize sumTo s.row 8 = sm at HSum hwr hfull hsl hs0' hgl
      go_wp2_with fail
      go_region_held3 (fun w' => w'.cell? ⟨rp, 0, none⟩ = some (.int .i64 cap)) (first | exact c0)
        ((first | (go_at_call 21; with_reducible refine (Calls.mono HSum.out ?_); rintro e w3 ⟨rfl, rfl⟩)))
      clear c0 HSum
      have hrow3 : Row w2.drew _ g c3 (s.row.map (.int .i64)) := HROW2.out
      have hb3d := HB3.out.drew
      generalize w2.drew = w3 at hrow3 hb3d ⊢
      go_upto_region 7 with fail
      have x0 := row_cell hrow3 (k := k) (by rw [HLN.out]; omega)
      have f0 := hrow3.free k
      go_upto_region 13 with fail
      have hrow4 := row_add hrow3 k n
      have hk4 := hb3d.setCell (p := ⟨g, k, none⟩) (by have := HG.out; exact this.2.2) (.int .i64 (g8 s.row k + n))
      generalize w3.setCell ⟨g, k, none⟩ (.int .i64 (g8 s.row k + n)) = w4 at hrow4 hk4 ⊢
      clear x0 f0
      have HRow := Lib.hid hrow4
      have HKB := Lib.hid hk4
      have HR4 := Lib.hid (HH.out.below HKB.out)
      have c1 := HR4.out.head.cell (o := 1) rfl
      clear hrow4 hk4
      go_wp2_with (at_builtin; refine append_list rfl _ _ _ rfl 40 .i64 Try.underlying42 info_ints HR4.out.lists rfl (b := g) (c' := c3) (xs := add s.row k n) (by have := HG.out; omega) (by have h1 := HG.out; have h2 := HAV.out; intro hx; rcases List.mem_cons.1 hx with rfl | hx; omega; have := h2 g hx; omega) (by have := HRow.out.lt; exact this) HLEN.out HRow.out.ints rfl HSM.out (by have h1 := HKB.out.size; have h2 := HAV.out; have h3 := HG0.out; intro y hy; rcases List.mem_cons.1 hy with rfl | hy; omega; have := h2 y hy; omega) ?_; intro sb2 c2 w6 hL6 hk6 hloc; have hP6 := HR4.out.head.kept hk6 (by have := HR4.out.ne; simpa using this); have f1 := hP6.free 1; have d1 := hP6.cell (o := 1) rfl)
      go_ret
      have hP7 := hP6.set 1 (.slice (some ⟨sb2, 0, none⟩) (s.hist.length + 1) c2)
      simp only [List.setIfInBounds_toArray, List.set_cons_zero, List.set_cons_succ] at hP7
      have hL7 := hL6.kept ((Kept.refl [rp] w6).setCell (p := ⟨rp, 1, none⟩) (by simp) (.slice (some ⟨sb2, 0, none⟩) (s.hist.length + 1) c2)) (by simp)
      refine rgives_yes HST.out ⟨?_, hL7⟩ ((((Kept.of_below HKB.out [rp, sb]).trans (hk6.mono (by simp))).setCell (p := ⟨rp, 1, none⟩) (by simp) _)) (by rcases hloc with rfl | h; exact .inl rfl; right; have := HKB.out.size; omega)
      rw [show (s.hist ++ [add s.row k n]).length = s.hist.length + 1 by simp]
      exact hP7
  · by_cases hfull : s.row.getD k 0 < n
    · have HST := Lib.hid (show stepL cap s.row 1 (k : Int) t n = (16, none) by unfold stepL; rw [if_neg (by decide), if_pos rfl, if_pos (by have := Hr.out; rw [if_neg (by decide)] at this; exact this), Int.toNat_natCast, if_pos hfull])
      go_enter Try.func16, Try.ntmps16
      go_wp2_with fail
      refine (HNow.out _ hba).mono ?_
      rintro e w1 ⟨b1, c1', rfl, hi1, _, nq, rfl⟩
      have hown1 : Own ((w.alloc (.cells #[] 3)).drewN nq) w.heap.size 3 .i64 _ [] := hown0
      have hbd := below_drewN hba nq
      generalize (w.alloc (.cells #[] 3)).drewN nq = w1 at hi1 hown1 hbd ⊢
      have HBD := Lib.hid hbd
      go_upto_region 4 with (at_builtin; refine append_all rfl _ _ _ rfl w.heap.size 3 .i64 8 Try.underlying40 info_int _ [] rfl hown1 s.row _ _ (by rw [HLN.out]; rfl) hi1 (by simp [HLN.out]) (by simp [HLN.out]) hbd.size ?_; intro v2 w2 hown2 hb2 _ hnil)
      rw [List.nil_append] at hown2
      have hne : v2 ≠ .slice none 0 0 := fun e => by have := (hnil.1 e).1; cases this
      obtain ⟨g, c3, rfl, hl2, hrow2, hg⟩ := Row.of_own hown2 hne
      have HG := Lib.hid (show rp < g ∧ sb < g ∧ w.heap.size ≤ g from by have := HG0.out; omega)
      have hb3 : Below w.heap.size w w2 := HBD.out.trans (hb2.mono (Nat.le_refl _))
      rw [show s.row.length = 8 from HLN.out]
      clear hown2 hb2 hnil hi1 hown1 hbd hne hl2
      have hfull' := hfull
      rw [show s.row.getD k 0 = g8 s.row k from rfl] at hfull'
      clear hfull hps hgl
      have x0 := row_cell hrow2 (k := k) (by rw [HLN.out]; omega)
      have f0 := hrow2.free k
      have HB3 := Lib.hid hb3
      go_wp2_with fail
      go_ret
      exact rgives_no HH.out HST.out HB3.out
    · have HST := Lib.hid (show stepL cap s.row 1 (k : Int) t n = (0, some (add s.row k (-n))) by unfold stepL; rw [if_neg (by decide), if_pos rfl, if_pos (by have := Hr.out; rw [if_neg (by decide)] at this; exact this), Int.toNat_natCast, if_neg hfull])
      have hadd : IntKind.i64.wrap (g8 s.row k - n) = g8 s.row k + -n := by rw [IntWalk.i64_in _ (by unfold g8; omega)]; omega
      have HLEN := Lib.hid (show (add s.row k (-n)).length = 8 by rw [add_len]; exact HLN.out)
      go_enter Try.func16, Try.ntmps16
      go_wp2_with fail
      refine (HNow.out _ hba).mono ?_
      rintro e w1 ⟨b1, c1', rfl, hi1, _, nq, rfl⟩
      have hown1 : Own ((w.alloc (.cells #[] 3)).drewN nq) w.heap.size 3 .i64 _ [] := hown0
      have hbd := below_drewN hba nq
      generalize (w.alloc (.cells #[] 3)).drewN nq = w1 at hi1 hown1 hbd ⊢
      have HBD := Lib.hid hbd
      go_upto_region 4 with (at_builtin; refine append_all rfl _ _ _ rfl w.heap.size 3 .i64 8 Try.underlying40 info_int _ [] rfl hown1 s.row _ _ (by rw [HLN.out]; rfl) hi1 (by simp [HLN.out]) (by simp [HLN.out]) hbd.size ?_; intro v2 w2 hown2 hb2 _ hnil)
      rw [List.nil_append] at hown2
      have hne : v2 ≠ .slice none 0 0 := fun e => by have := (hnil.1 e).1; cases this
      obtain ⟨g, c3, rfl, hl2, hrow2, hg⟩ := Row.of_own hown2 hne
      have HG := Lib.hid (show rp < g ∧ sb < g ∧ w.heap.size ≤ g from by have := HG0.out; omega)
      have hb3 : Below w.heap.size w w2 := HBD.out.trans (hb2.mono (Nat.le_refl _))
      rw [show s.row.length = 8 from HLN.out]
      clear hown2 hb2 hnil hi1 hown1 hbd hne hl2
      have hfull' := hfull
      rw [show s.row.getD k 0 = g8 s.row k from rfl] at hfull'
      clear hfull hps hgl
      have x0 := row_cell hrow2 (k := k) (by rw [HLN.out]; omega)
      have f0 := hrow2.free k
      have HB3 := Lib.hid hb3
      go_upto_region 11 with fail
      have hrow4 := row_add hrow2 k (-n)
      have hk4 := HB3.out.setCell (p := ⟨g, k, none⟩) (by have := HG.out; exact this.2.2) (.int .i64 (g8 s.row k + -n))
      generalize w2.setCell ⟨g, k, none⟩ (.int .i64 (g8 s.row k + -n)) = w4 at hrow4 hk4 ⊢
      clear x0 f0 hrow2 hb3
      go_upto_region 13 with fail
      have HRow := Lib.hid hrow4
      have HKB := Lib.hid hk4
      have HR4 := Lib.hid (HH.out.below HKB.out)
      have c1 := HR4.out.head.cell (o := 1) rfl
      clear hrow4 hk4
      go_wp2_with (at_builtin; refine append_list rfl _ _ _ rfl 40 .i64 Try.underlying42 info_ints HR4.out.lists rfl (b := g) (c' := c3) (xs := add s.row k (-n)) (by have := HG.out; omega) (by have h1 := HG.out; have h2 := HAV.out; intro hx; rcases List.mem_cons.1 hx with rfl | hx; omega; have := h2 g hx; omega) (by have := HRow.out.lt; exact this) HLEN.out HRow.out.ints rfl HSM.out (by have h1 := HKB.out.size; have h2 := HAV.out; have h3 := HG0.out; intro y hy; rcases List.mem_cons.1 hy with rfl | hy; omega; have := h2 y hy; omega) ?_; intro sb2 c2 w6 hL6 hk6 hloc; have hP6 := HR4.out.head.kept hk6 (by have := HR4.out.ne; simpa using this); have f1 := hP6.free 1; have d1 := hP6.cell (o := 1) rfl)
      go_ret
      have hP7 := hP6.set 1 (.slice (some ⟨sb2, 0, none⟩) (s.hist.length + 1) c2)
      simp only [List.setIfInBounds_toArray, List.set_cons_zero, List.set_cons_succ] at hP7
      have hL7 := hL6.kept ((Kept.refl [rp] w6).setCell (p := ⟨rp, 1, none⟩) (by simp) (.slice (some ⟨sb2, 0, none⟩) (s.hist.length + 1) c2)) (by simp)
      refine rgives_yes HST.out ⟨?_, hL7⟩ ((((Kept.of_below HKB.out [rp, sb]).trans (hk6.mono (by simp))).setCell (p := ⟨rp, 1, none⟩) (by simp) _)) (by rcases hloc with rfl | h; exact .inl rfl; right; have := HKB.out.size; omega)
      rw [show (s.hist ++ [add s.row k (-n)]).length = s.hist.length + 1 by simp]
      exact hP7
  · by_cases hfull : s.row.getD k 0 < n
    · have HST := Lib.hid (show stepL cap s.row 2 (k : Int) t n = (16, none) by unfold stepL; rw [if_neg (by decide), if_neg (by decide), if_pos (by have := Hr.out; rw [if_pos rfl] at this; exact this), Int.toNat_natCast, if_pos hfull])
      obtain ⟨ht0, ht8⟩ := ht2 rfl
      have ht1 : ¬ t < 0 := by omega
      have ht7 : ¬ 7 < t := by omega
      go_enter Try.func16, Try.ntmps16
      go_wp2_with fail
      refine (HNow.out _ hba).mono ?_
      rintro e w1 ⟨b1, c1', rfl, hi1, _, nq, rfl⟩
      have hown1 : Own ((w.alloc (.cells #[] 3)).drewN nq) w.heap.size 3 .i64 _ [] := hown0
      have hbd := below_drewN hba nq
      generalize (w.alloc (.cells #[] 3)).drewN nq = w1 at hi1 hown1 hbd ⊢
      have HBD := Lib.hid hbd
      go_upto_region 4 with (at_builtin; refine append_all rfl _ _ _ rfl w.heap.size 3 .i64 8 Try.underlying40 info_int _ [] rfl hown1 s.row _ _ (by rw [HLN.out]; rfl) hi1 (by simp [HLN.out]) (by simp [HLN.out]) hbd.size ?_; intro v2 w2 hown2 hb2 _ hnil)
      rw [List.nil_append] at hown2
      have hne : v2 ≠ .slice none 0 0 := fun e => by have := (hnil.1 e).1; cases this
      obtain ⟨g, c3, rfl, hl2, hrow2, hg⟩ := Row.of_own hown2 hne
      have HG := Lib.hid (show rp < g ∧ sb < g ∧ w.heap.size ≤ g from by have := HG0.out; omega)
      have hb3 : Below w.heap.size w w2 := HBD.out.trans (hb2.mono (Nat.le_refl _))
      rw [show s.row.length = 8 from HLN.out]
      clear hown2 hb2 hnil hi1 hown1 hbd hne hl2
      have hfull' := hfull
      rw [show s.row.getD k 0 = g8 s.row k from rfl] at hfull'
      clear hfull hps hgl
      have x0 := row_cell hrow2 (k := k) (by rw [HLN.out]; omega)
      have f0 := hrow2.free k
      have HB3 := Lib.hid hb3
      go_wp2_with fail
      go_ret
      exact rgives_no HH.out HST.out HB3.out
    · have HST := Lib.hid (show stepL cap s.row 2 (k : Int) t n = (0, some (add (add s.row k (-n)) t.toNat n)) by unfold stepL; rw [if_neg (by decide), if_neg (by decide), if_pos (by have := Hr.out; rw [if_pos rfl] at this; exact this), Int.toNat_natCast, if_neg hfull])
      have hadd : IntKind.i64.wrap (g8 s.row k - n) = g8 s.row k + -n := by rw [IntWalk.i64_in _ (by unfold g8; omega)]; omega
      obtain ⟨ht0, ht8⟩ := ht2 rfl
      obtain ⟨t, rfl⟩ := Int.eq_ofNat_of_zero_le ht0
      rw [Int.toNat_natCast] at HST
      have ht1 : ¬ (t : Int) < 0 := by omega
      have ht7 : ¬ 7 < (t : Int) := by omega
      have hok1 : OkR cap (add s.row k (-n)) := add_ok HR.out (show k < 8 by omega) (by omega) (by omega)
      have hgt := get_le hok1.pos (show t < 8 by omega)
      have hpt := hok1.pos t
      have hsl1 := hok1.le
      have hy : IntKind.i64.wrap (g8 (add s.row k (-n)) t + n) = g8 (add s.row k (-n)) t + n := IntWalk.i64_in _ (by unfold g8; omega)
      have HLEN := Lib.hid (show (add (add s.row k (-n)) t n).length = 8 by rw [add_len, add_len]; exact HLN.out)
      clear hok1 hgt hpt hsl1
      go_enter Try.func16, Try.ntmps16
      go_wp2_with fail
      refine (HNow.out _ hba).mono ?_
      rintro e w1 ⟨b1, c1', rfl, hi1, _, nq, rfl⟩
      have hown1 : Own ((w.alloc (.cells #[] 3)).drewN nq) w.heap.size 3 .i64 _ [] := hown0
      have hbd := below_drewN hba nq
      generalize (w.alloc (.cells #[] 3)).drewN nq = w1 at hi1 hown1 hbd ⊢
      have HBD := Lib.hid hbd
      go_upto_region 4 with (at_builtin; refine append_all rfl _ _ _ rfl w.heap.size 3 .i64 8 Try.underlying40 info_int _ [] rfl hown1 s.row _ _ (by rw [HLN.out]; rfl) hi1 (by simp [HLN.out]) (by simp [HLN.out]) hbd.size ?_; intro v2 w2 hown2 hb2 _ hnil)
      rw [List.nil_append] at hown2
      have hne : v2 ≠ .slice none 0 0 := fun e => by have := (hnil.1 e).1; cases this
      obtain ⟨g, c3, rfl, hl2, hrow2, hg⟩ := Row.of_own hown2 hne
      have HG := Lib.hid (show rp < g ∧ sb < g ∧ w.heap.size ≤ g from by have := HG0.out; omega)
      have hb3 : Below w.heap.size w w2 := HBD.out.trans (hb2.mono (Nat.le_refl _))
      rw [show s.row.length = 8 from HLN.out]
      clear hown2 hb2 hnil hi1 hown1 hbd hne hl2
      have hfull' := hfull
      rw [show s.row.getD k 0 = g8 s.row k from rfl] at hfull'
      clear hfull hps hgl
      have x0 := row_cell hrow2 (k := k) (by rw [HLN.out]; omega)
      have f0 := hrow2.free k
      have HB3 := Lib.hid hb3
      go_upto_region 11 with fail
      have hrow4 := row_add hrow2 k (-n)
      have hk4 := HB3.out.setCell (p := ⟨g, k, none⟩) (by have := HG.out; exact this.2.2) (.int .i64 (g8 s.row k + -n))
      generalize w2.setCell ⟨g, k, none⟩ (.int .i64 (g8 s.row k + -n)) = w4 at hrow4 hk4 ⊢
      clear x0 f0 hrow2 hb3
      have x1 := row_cell hrow4 (k := t) (by rw [add_len, HLN.out]; omega)
      have f1 := hrow4.free t
      go_upto_region 13 with fail
      have hrow5 := row_add hrow4 t n
      have hk5 := hk4.setCell (p := ⟨g, t, none⟩) (by have := HG.out; exact this.2.2) (.int .i64 (g8 (add s.row k (-n)) t + n))
      generalize w4.setCell ⟨g, t, none⟩ (.int .i64 (g8 (add s.row k (-n)) t + n)) = w5 at hrow5 hk5 ⊢
      clear x1 f1 hrow4 hk4
      have HRow := Lib.hid hrow5
      have HKB := Lib.hid hk5
      have HR4 := Lib.hid (HH.out.below HKB.out)
      have c1 := HR4.out.head.cell (o := 1) rfl
      clear hrow5 hk5
      go_wp2_with (at_builtin; refine append_list rfl _ _ _ rfl 40 .i64 Try.underlying42 info_ints HR4.out.lists rfl (b := g) (c' := c3) (xs := add (add s.row k (-n)) t n) (by have := HG.out; omega) (by have h1 := HG.out; have h2 := HAV.out; intro hx; rcases List.mem_cons.1 hx with rfl | hx; omega; have := h2 g hx; omega) (by have := HRow.out.lt; exact this) HLEN.out HRow.out.ints rfl HSM.out (by have h1 := HKB.out.size; have h2 := HAV.out; have h3 := HG0.out; intro y hy; rcases List.mem_cons.1 hy with rfl | hy; omega; have := h2 y hy; omega) ?_; intro sb2 c2 w6 hL6 hk6 hloc; have hP6 := HR4.out.head.kept hk6 (by have := HR4.out.ne; simpa using this); have f1 := hP6.free 1; have d1 := hP6.cell (o := 1) rfl)
      go_ret
      have hP7 := hP6.set 1 (.slice (some ⟨sb2, 0, none⟩) (s.hist.length + 1) c2)
      simp only [List.setIfInBounds_toArray, List.set_cons_zero, List.set_cons_succ] at hP7
      have hL7 := hL6.kept ((Kept.refl [rp] w6).setCell (p := ⟨rp, 1, none⟩) (by simp) (.slice (some ⟨sb2, 0, none⟩) (s.hist.length + 1) c2)) (by simp)
      refine rgives_yes HST.out ⟨?_, hL7⟩ ((((Kept.of_below HKB.out [rp, sb]).trans (hk6.mono (by simp))).setCell (p := ⟨rp, 1, none⟩) (by simp) _)) (by rcases hloc with rfl | h; exact .inl rfl; right; have := HKB.out.size; omega)
      rw [show (s.hist ++ [add (add s.row k (-n)) t n]).length = s.hist.length + 1 by simp]
      exact hP7
end Go.Proofs.Ytchnhmcedmicgaa.Led
